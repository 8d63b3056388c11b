/-
  PARTS of a claim, merged by segs.py: TextR, Row2, Rw5, Sk3.
-/
import Derived.Test.YtjhnopnppimnhaaGreatDoorZ07
import Derived.Test.YtjhnopnppimnhaaGreatDoorZ19
import Derived.Test.YtjhnopnppimnhaaGreatDoorZ04
import Derived.Test.YtjhnopnppimnhaaGreatDoorZ10
import Derived.Test.YtjhnopnppimnhaaGreatDoorZ15
import Derived.Test.YtjhnopnppimnhaaGreatDoorZ17
import Derived.Test.YtjhnopnppimnhaaGreatDoorZ14
namespace Go.Proofs.YtjhnopnppimnhaaGreatDoor

/-! ### TextR -/
section
open Go.RowKit

theorem bld_below {T e : TypeId} {B b : Nat} {p : Value} {bs : List Value} {w w' : World} (h : Lib.BuilderAt T e B b p bs w) (hb : Below w.heap.size w w') : Lib.BuilderAt T e B b p bs w' := by
  have hlt := h.lt
  obtain ⟨hB, v, hbk, hown, hne⟩ := h
  exact ⟨hB, v, (hb.block b hlt).trans hbk, own_below hown hb, hne⟩

theorem bldAdd {T e : TypeId} {B b : Nat} {p : Value} {l x : List UInt8} {w : World} {y : List Value} (hy : Lib.byteCells x = y) (h : Lib.BuilderAt T e B b p (Lib.byteCells l ++ y) w) : Lib.BuilderAt T e B b p (Lib.byteCells (l ++ x)) w := by
  subst hy; rw [Lib.byteCells_append]; exact h

set_option maxRecDepth 100000 in
set_option maxHeartbeats 1000000 in
theorem row_text (A : Option Addr) (c : Nat) (r : List V) (w : World) (hr : RowAt w A r) (hl : r.length ≤ 100000) (hok : ∀ v ∈ r, v.ok) (ht : Tab w) :
    Calls Tryz.prog 16 #[.slice A r.length c] w fun e w' => e = .returned (.string ⟨(rowTextL r).toArray⟩) ∧ Below w.heap.size w w' := by
  have hfb := Lib.fresh_isBuilder 54 5 w
  go_enter Tryz.func16, Tryz.ntmps16
  go_wp2_with (go_at_call 26; refine (writeByte w.heap.size w.heap.size [] _ _ hfb (by simp) (by simp)).mono ?_; rintro e w1 ⟨rfl, hbl, hb1⟩)
  have hb0 : Below w.heap.size w w1 := (below_one w _).trans hb1
  have hbl1 := bldAdd (l := []) (x := [40]) rfl hbl
  clear hb1 hbl hfb
  go_loopw [8] (fun i wr => ∃ (k : Nat) (l : List UInt8), k ≤ r.length ∧ i = .int .i64 k ∧ Lib.BuilderAt 54 5 w.heap.size w.heap.size (.pointer (some ⟨w.heap.size, 0, none⟩)) (Lib.byteCells l) wr ∧ l.length ≤ 1 + 400004 * k ∧ Hid (l = 40 :: rowBody (r.take k)) ∧ Below w.heap.size w wr) (fun i _ => r.length - (intOf i).toNat)
  case atStart => exact ⟨0, [40], by omega, rfl, hbl1, by simp, hid (by simp [rowBody]), hb0⟩
  case round =>
    obtain ⟨k, l, hk, rfl, hbld, hlen, HL, hbel⟩ := hrel
    clear hbl1 hb0
    have hsz := hbel.size
    by_cases hlt : k < r.length
    · obtain ⟨b, o, rfl, hcell⟩ := hr (by omega)
      obtain ⟨c0, c1, c2⟩ := hcell k hlt
      have hin := hok r[k] (List.getElem_mem hlt)
      have hb : b < w.heap.size := cell_lt c0
      have h1 := fun h : 0 < k => rowBody_succ hlt h
      have h0 : k = 0 → rowBody (r.take (k + 1)) = textL r[k] := by rintro rfl; exact rowBody_one hlt
      generalize r[k] = v at *
      have H1 := hid h1
      have H0 := hid h0
      have Htl := textL_le hin
      have hvt := fun W (hW : Tab W) => hid (value_text v W hin.n hin.s hW rfl)
      generalize textL v = tx at *
      have ht' := fun W (h : Below w.heap.size w W) => ht.below h
      clear hr hcell hok h1 h0 ht hin
      by_cases hk0 : k = 0
      · have e := H0.out hk0
        have el : l = [40] := by rw [HL.out, hk0]; rfl
        subst el
        have HL2 : Hid ([40] ++ tx = 40 :: rowBody (r.take (k + 1))) := hid (by rw [e]; rfl)
        have hk1 : k ≤ 0 := by omega
        have d0 := (hbel.cell (p := ⟨b, o + k * 3, none⟩) hb).trans c0
        have d1 := (hbel.cell (p := ⟨b, o + k * 3 + 1, none⟩) hb).trans c1
        have d2 := (hbel.cell (p := ⟨b, o + k * 3 + 2, none⟩) hb).trans c2
        clear H1 H0 HL e hk0
        go_wp2_with (first
          | (go_at_call 21; refine (writeString w.heap.size w.heap.size (Lib.byteCells [40]) ⟨tx.toArray⟩ _ (Or.inr hbl2) (by rw [Lib.byteCells_length]; show _ + tx.length ≤ _; simp; omega) (Nat.le_trans hsz hb2.size)).mono ?_; rintro e w3 ⟨rfl, hbl3, hb3⟩)
          | (go_at_call 27; refine ((hvt _ (ht' _ hbel)).out).mono ?_; rintro e w2 ⟨rfl, hb2⟩; have hbl2 := bld_below hbld hb2))
        have hbl4 := bldAdd (x := tx) rfl hbl3
        have hbelow2 := (hbel.trans (hb2.mono hbel.size)).trans hb3
        clear hbl3 hbl2 hb3 hb2
        go_roundw
        case rel => exact ⟨k + 1, [40] ++ tx, by omega, by go_num, hbl4, by simp; omega, HL2, hbelow2⟩
        case measure => simp [intOf]; omega
      · have hkp : 0 < k := by omega
        have e := H1.out hkp
        have HL2 : Hid (l ++ ([44, 32] ++ tx) = 40 :: rowBody (r.take (k + 1))) := hid (by rw [e, HL.out]; rfl)
        clear H1 H0 HL e hk0
        go_wp2_with (first
          | (go_at_call 21; refine (writeString w.heap.size w.heap.size (Lib.byteCells (l ++ [44, 32])) ⟨tx.toArray⟩ _ (Or.inr hbl2) (by rw [Lib.byteCells_length, List.length_append]; show _ + tx.length ≤ _; simp; omega) (Nat.le_trans hbelow1.size hb2.size)).mono ?_; rintro e w3 ⟨rfl, hbl3, hb3⟩)
          | (go_at_call 21; refine (writeString w.heap.size w.heap.size (Lib.byteCells l) ⟨#[44, 32]⟩ _ (Or.inr hbld) (by rw [Lib.byteCells_length]; show _ + 2 ≤ _; omega) hsz).mono ?_; rintro e w1 ⟨rfl, hbl1, hb1⟩; have hbelow1 := hbel.trans hb1; have d0 := (hbelow1.cell (p := ⟨b, o + k * 3, none⟩) hb).trans c0; have d1 := (hbelow1.cell (p := ⟨b, o + k * 3 + 1, none⟩) hb).trans c1; have d2 := (hbelow1.cell (p := ⟨b, o + k * 3 + 2, none⟩) hb).trans c2)
          | (go_at_call 27; refine ((hvt _ (ht' _ hbelow1)).out).mono ?_; rintro e w2 ⟨rfl, hb2⟩; have hbl2 := bld_below (bldAdd (x := [44, 32]) rfl hbl1) hb2))
        have hbl4 := bldAdd (x := tx) rfl hbl3
        have hbelow2 := (hbelow1.trans (hb2.mono hbelow1.size)).trans hb3
        clear hbl3 hbl2 hbl1 hb3 hb2 hb1
        go_roundw
        case rel => exact ⟨k + 1, (l ++ [44, 32]) ++ tx, by omega, by go_num, hbl4, by simp; omega, hid (by rw [← HL2.out]; simp), hbelow2⟩
        case measure => simp [intOf]; omega
    · have e : r.take k = r := List.take_of_length_le (by omega)
      rw [e] at HL
      have HF : Hid (l ++ [41] = rowTextL r) := hid (by rw [HL.out]; rfl)
      clear HL e hr hok ht
      go_wp2_with (first
        | (go_at_call 26; refine (writeByte w.heap.size w.heap.size (Lib.byteCells l) _ _ (Or.inr hbld) (by rw [Lib.byteCells_length]; omega) hsz).mono ?_; rintro e w1 ⟨rfl, hbl, hb1⟩; have hbl2 := bldAdd (x := [41]) rfl hbl; have hbel2 := hbel.trans hb1)
        | (go_at_call 24; refine (Tryz.Builder_String_any w.heap.size w.heap.size (l ++ [41]) _ (Or.inr hbl2) hbel2.size).mono ?_; rintro e w2 ⟨rfl, hb2⟩))
      go_ret
      exact ⟨ret_s HF.out, hbel2.trans hb2⟩
end

/-! ### Row2 -/
section
open Go.RowKit

/-- The cells of a row. -/
def flat (r : List V) : List Value := r.flatMap fun v => [.int .i64 v.k, .int .i64 v.n, .string v.s]

theorem flat_length : ∀ r : List V, (flat r).length = r.length * 3
  | [] => rfl
  | v :: r => by
    have := flat_length r
    simp only [flat, List.flatMap_cons, List.length_append, List.length_cons] at *
    simp only [List.length_nil]; omega

theorem flat_get : ∀ (r : List V) (i : Nat) (h : i < r.length), (flat r)[i * 3]? = some (.int .i64 r[i].k) ∧ (flat r)[i * 3 + 1]? = some (.int .i64 r[i].n) ∧ (flat r)[i * 3 + 2]? = some (.string r[i].s)
  | v :: r, 0, _ => ⟨rfl, rfl, rfl⟩
  | v :: r, i + 1, h => by
    have := flat_get r i (by simpa using h)
    have e : (i + 1) * 3 = i * 3 + 3 := by omega
    simpa [flat, e, Nat.add_assoc] using this

theorem flat_append (r r' : List V) : flat (r ++ r') = flat r ++ flat r' := by simp [flat]

theorem own_row {w : World} {B : Nat} {e : TypeId} {v : Value} {r : List V} (h : w.ownsRow B e 3 v r.length (flat r)) : ∃ A c, v = .slice A r.length c ∧ RowAt w A r := by
  rcases h.2 with ⟨rfl, h0⟩ | ⟨g, cap, cur, rfl, hB, hh, hn, hm, hcs, ht⟩
  · refine ⟨none, 0, by rw [h0], ?_⟩
    intro hp; omega
  · refine ⟨some ⟨g, 0, none⟩, cap, rfl, fun hp => ⟨g, 0, rfl, fun i hi => ?_⟩⟩
    obtain ⟨e0, e1, e2⟩ := flat_get r i hi
    have hl := flat_length r
    refine ⟨?_, ?_, ?_⟩
    · rw [h.cellAt _ (by omega)]; rw [Nat.zero_add]; exact e0
    · rw [h.cellAt _ (by omega)]; rw [Nat.zero_add]; exact e1
    · rw [h.cellAt _ (by omega)]; rw [Nat.zero_add]; exact e2

/-- A call that returns a row in memory of its own. -/
def RetRow (w : World) (r : List V) (e : Ending) (w' : World) : Prop := ∃ A c, e = .returned (.slice A r.length c) ∧ RowAt w' A r ∧ Below w.heap.size w w'

theorem row_compare (A A' : Option Addr) (c c' : Nat) (r r' : List V) (w : World) {x : Int} (hx : rowCmp [] r r' = x) (hr : RowAt w A r) (hr' : RowAt w A' r') (hl : r.length ≤ 100000) (hl' : r'.length ≤ 100000) :
    Calls Tryz.prog 38 #[.slice A r.length c, .slice A' r'.length c'] w fun e w' => e = .returned (.int .i64 x) ∧ Below w.heap.size w w' := by
  have hc := fun W h1 h2 => compareBy A A' none c c' 0 r r' [] W hx h1 h2 BoolsAt.nil hl hl' (by simp)
  clear hx
  go_enter Tryz.func38, Tryz.ntmps38
  go_wp2_with (go_at_call 53; refine (hc _ hr hr').mono ?_; rintro e w1 ⟨rfl, hb1⟩)
  go_ret
  exact ⟨rfl, hb1⟩

theorem row_equal (A A' : Option Addr) (c c' : Nat) (r r' : List V) (w : World) {x : Bool} (hx : decide (rowCmp [] r r' = 0) = x) (hr : RowAt w A r) (hr' : RowAt w A' r') (hl : r.length ≤ 100000) (hl' : r'.length ≤ 100000) :
    Calls Tryz.prog 25 #[.slice A r.length c, .slice A' r'.length c'] w fun e w' => e = .returned (.bool x) ∧ Below w.heap.size w w' := by
  obtain ⟨y, hy⟩ : ∃ y, rowCmp [] r r' = y := ⟨_, rfl⟩
  have hc := fun W h1 h2 => row_compare A A' c c' r r' W hy h1 h2 hl hl'
  rw [hy] at hx
  have H : Hid ((y == 0) = x) := hid (by rw [← hx]; rfl)
  clear hx hy
  go_enter Tryz.func25, Tryz.ntmps25
  go_wp2_with (go_at_call 38; refine (hc _ hr hr').mono ?_; rintro e w1 ⟨rfl, hb1⟩)
  go_ret
  exact ⟨ret_b H.out, hb1⟩

/-- A slice of integers. -/
def IntsAt (w : World) (A : Option Addr) (l : List Int) : Prop :=
  0 < l.length → ∃ b o, A = some ⟨b, o, none⟩ ∧ ∀ i (h : i < l.length), w.cell? ⟨b, o + i, none⟩ = some (.int .i64 l[i])

theorem IntsAt.below {w w' : World} {A : Option Addr} {r : List Int} (h : IntsAt w A r) (hb : Below w.heap.size w w') : IntsAt w' A r := by
  intro hl
  obtain ⟨b, o, e, hc⟩ := h hl
  exact ⟨b, o, e, fun i hi => (hb.cell (cell_lt (hc i hi))).trans (hc i hi)⟩

theorem infoV : (Tryz.prog.info? 67).map (fun i => (i.zero, i.size, i.bytes)) = some (some (.agg #[.int .i64 0, .int .i64 0, .string ⟨#[]⟩]), 3, 32) := by kernel_rfl

def intV (n : Int) : V := ⟨1, n, ⟨#[]⟩⟩

end

/-! ### Rw5 -/
section
open Go.RowKit

/-- A call that returns a row of its own, or an error. -/
def RetRowE (w : World) (x : Option (List V)) (e : Ending) (w' : World) : Prop := match x with
  | some vs => ∃ A c, e = .returned (.tuple #[.slice A vs.length c, .int .i64 0]) ∧ RowAt w' A vs ∧ vs.length ≤ c ∧ Below w.heap.size w w'
  | none => e = .returned (.tuple #[.slice none 0 0, .int .i64 15]) ∧ Below w.heap.size w w'
/-- The same as a row of the call's own. -/
def RetRowO (w : World) (x : Option (List V)) (e : Ending) (w' : World) : Prop := match x with
  | some vs => ∃ A c, e = .returned (.tuple #[.slice A vs.length c, .int .i64 0]) ∧ w'.ownsRow w.heap.size 67 3 (.slice A vs.length c) vs.length (flat vs) ∧ Below w.heap.size w w'
  | none => e = .returned (.tuple #[.slice none 0 0, .int .i64 15]) ∧ Below w.heap.size w w'
theorem own_rowc {w : World} {B : Nat} {e : TypeId} {v : Value} {r : List V} (h : w.ownsRow B e 3 v r.length (flat r)) : ∃ A c, v = .slice A r.length c ∧ RowAt w A r ∧ r.length ≤ c := by
  obtain ⟨A, c, hv, hr⟩ := own_row h
  rcases h.2 with ⟨h1, h0⟩ | ⟨g, cap, cur, h1, _, _, hn, _⟩
  · rw [hv] at h1; injection h1 with _ _ h3
    exact ⟨A, c, hv, hr, by omega⟩
  · rw [hv] at h1; injection h1 with _ _ h3
    exact ⟨A, c, hv, hr, by omega⟩
theorem flat_snoc {w : World} {B : Nat} {e : TypeId} {u : Value} {l : List V} {v : V} (h : w.ownsRow B e 3 u (l.length + 1) (flat l ++ [.int .i64 v.k, .int .i64 v.n, .string v.s])) : w.ownsRow B e 3 u (l ++ [v]).length (flat (l ++ [v])) := by
  rw [List.length_append, flat_append]; exact h
theorem hasPre (s p : ByteArray) (w : World) {b : Bool} (h : p.data.toList.isPrefixOf s.data.toList = b) :
    Calls Tryz.prog 110 #[.string s, .string p] w fun e w' => e = .returned (.bool b) ∧ w = w' := by
  refine (Tryz.strings_HasPrefix s p w).mono fun e w' ⟨h1, h2⟩ => ⟨?_, h2.symm⟩
  rw [h1]
  exact ret_b h
theorem cut_list (D : ByteArray) (m : Nat) : (D.extract 0 m).data.toList = D.data.toList.take m := by
  simp [ByteArray.data_extract, Array.toList_extract, List.extract]

theorem rowP_bad {acc : List V} {l : List UInt8} {m : Nat} {v : V} {q : Int} (hm : litLen l = m) (hp : parseL (l.take m) = (v, q)) (hq : q ≠ 0) : rowP acc l = none := by
  rw [rowP, hm, hp, if_pos hq]
theorem rowP_end {acc : List V} {l : List UInt8} {m : Nat} {v : V} (hm : litLen l = m) (hp : parseL (l.take m) = (v, 0)) (h : l.drop m = []) : rowP acc l = some (acc ++ [v]) := by
  rw [rowP, hm, hp, if_neg (by simp), if_pos h]
theorem rowP_form {acc : List V} {l : List UInt8} {m : Nat} {v : V} (hm : litLen l = m) (hp : parseL (l.take m) = (v, 0)) (h : l.drop m ≠ []) (h2 : ([44, 32] : List UInt8).isPrefixOf (l.drop m) = false) : rowP acc l = none := by
  rw [rowP, hm, hp, if_neg (by simp), if_neg h, if_pos h2]
theorem rowP_more {acc : List V} {l : List UInt8} {m : Nat} {v : V} (hm : litLen l = m) (hp : parseL (l.take m) = (v, 0)) (h2 : ([44, 32] : List UInt8).isPrefixOf (l.drop m) = true) : rowP acc l = rowP (acc ++ [v]) ((l.drop m).drop 2) ∧ 2 ≤ (l.drop m).length := by
  have hl := (List.isPrefixOf_iff_prefix.1 h2).length_le
  have hl2 : 2 ≤ (l.drop m).length := hl
  have hne : l.drop m ≠ [] := by intro e; rw [e] at hl2; simp at hl2
  refine ⟨?_, hl2⟩
  rw [rowP, hm, hp, if_neg (by simp), if_neg hne, if_neg (by rw [h2]; simp), dif_neg (by omega)]

set_option maxRecDepth 100000 in
set_option maxHeartbeats 2000000 in
theorem row_parse_own (s : ByteArray) (w : World) (hs : s.size ≤ 100000) (hE : Env w) {x : Option (List V)} (hx : rowQ s.data.toList = x) :
    Calls Tryz.prog 79 #[.string s] w (RetRowO w x) := by
  obtain ⟨i0, hi, hz0, hz1, hz2⟩ := info_parts infoV
  have tl : ∀ B : ByteArray, B.toList = B.data.toList := fun B => Lib.toList_data _
  have hll : s.data.toList.length = s.size := by simp
  unfold rowQ at hx
  rw [hll] at hx
  cases hb0 : (s.toList == ([40, 41] : List UInt8))
  · have hne : s.data.toList ≠ [40, 41] := by
      intro e
      rw [tl, e] at hb0
      revert hb0; decide
    rw [if_neg hne] at hx
    clear hne
    by_cases h2 : s.size < 2
    · rw [if_pos (.inl h2)] at hx
      subst hx
      clear tl hll hE
      go_enter Tryz.func79, Tryz.ntmps79
      go_wp2
      go_ret2
      exact ⟨rfl, Below.refl _ _⟩
    · have hpos : 0 < s.size := by omega
      have hl1 : s.size - 1 < s.size := by omega
      have eix : ((s.size : Int) - 1).toNat = s.size - 1 := by omega
      rw [first_of hpos, getD_of hl1] at hx
      by_cases h40 : s[0].toNat = 40
      · have b40 : ((s[0].toNat : Int) != 40) = false := by rw [bne_eq_false_iff_eq]; omega
        by_cases h41 : (s[s.size - 1]'hl1).toNat = 41
        · rw [if_neg (by rintro (h | h | h); exact h2 h; exact h (UInt8.toNat.inj h40); exact h (UInt8.toNat.inj h41))] at hx
          have b41 : (((s[s.size - 1]'hl1).toNat : Int) != 41) = false := by rw [bne_eq_false_iff_eq]; omega
          obtain ⟨D, hD⟩ : ∃ D : ByteArray, s.extract 1 (s.size - 1) = D := ⟨_, rfl⟩
          have hDl : (s.data.toList.drop 1).take (s.size - 2) = D.data.toList := by
            rw [← hD]; simp only [ByteArray.data_extract, Array.toList_extract, List.extract]; congr 1
          have hDs : D.size ≤ s.size := by rw [← hD]; simp; omega
          rw [hDl] at hx
          have HX := hid hx
          have HE := hid hE
          clear hx hDl hll h40 h41 hE tl
          go_enter Tryz.func79, Tryz.ntmps79
          go_wp2
          go_loopw [4, 5] (fun r v wr => ∃ (B : ByteArray) (acc : List V), r = .string B ∧ B.size + acc.length ≤ s.size ∧ wr.ownsRow w.heap.size 67 3 v acc.length (flat acc) ∧ Hid (rowP acc B.data.toList = x) ∧ Below w.heap.size w wr) (fun r _ _ => (bytesOf r).size)
          case atStart => exact ⟨D, [], rfl, by simpa using hDs, World.ownsRow_nil _ _ _ _, HX, Below.refl _ _⟩
          case round =>
            obtain ⟨B, acc, rfl, hsz, hown, HK, hbel⟩ := hrel
            obtain ⟨m, hm⟩ : ∃ m, litLen B.data.toList = m := ⟨_, rfl⟩
            have hml := litLen_le B.data.toList
            have hBl : B.data.toList.length = B.size := by simp
            rw [hm, hBl] at hml
            obtain ⟨C, hC⟩ : ∃ C : ByteArray, B.extract 0 m = C := ⟨_, rfl⟩
            have hCl : B.data.toList.take m = C.data.toList := by rw [← hC, cut_list]
            have hCs : C.size ≤ 100000 := by rw [← hC]; simp; omega
            obtain ⟨⟨v, q⟩, hp⟩ : ∃ p, parseL C.data.toList = p := ⟨_, rfl⟩
            obtain ⟨R, hR⟩ : ∃ R : ByteArray, B.extract m B.size = R := ⟨_, rfl⟩
            have hRl : B.data.toList.drop m = R.data.toList := by rw [← hR, drop_extract]
            have hRs : R.size ≤ B.size - m := by rw [← hR]; simp
            have hpB : parseL (B.data.toList.take m) = (v, q) := by rw [hCl]; exact hp
            have H1 := fun W => hid (row_literal B W (by omega) hm)
            have H2 := fun W (h : Below w.heap.size w W) => hid (parse_lit C W hCs (HE.out.below h).err hp)
            clear HX
            by_cases hq : q = 0
            · subst hq
              have hown0 := hid hown
              cases hRe : R.toList.isEmpty
              · have hRne : R.data.toList ≠ [] := by
                  intro e; rw [Lib.toList_data, e] at hRe; cases hRe
                obtain ⟨b, hb⟩ : ∃ b, ([44, 32] : List UInt8).isPrefixOf R.data.toList = b := ⟨_, rfl⟩
                have H3 := fun W => hid (hasPre R ⟨#[44, 32]⟩ W hb)
                cases b
                · have hx := HK.out.symm.trans (rowP_form hm hpB (by rw [hRl]; exact hRne) (by rw [hRl]; exact hb))
                  subst hx
                  clear hRne hb
                  clear HK hp hpB hCl hRl hm hBl
                  go_wp2_with fail
                  refine (H1 _).out.mono ?_
                  rintro e w1 ⟨rfl, rfl⟩
                  go_wp2_with fail
                  refine (H2 _ hbel).out.mono ?_
                  rintro e w1 ⟨rfl, b1⟩
                  have hbel1 := hbel.trans (b1.mono hbel.size)
                  have hown1 := own_below hown b1
                  have hbelA := hbel1.trans ((below_one w1 (.cells #[.int .i64 v.k, .int .i64 v.n, .string v.s] 67)).mono hbel1.size)
                  have hownA := own_below hown1 (below_one w1 (.cells #[.int .i64 v.k, .int .i64 v.n, .string v.s] 67))
                  clear H1 H2 b1 hown hown0
                  go_wp2_with (at_builtin; refine wpList_append_new2 Tryz.underlying33 hi hz0 hz1 hz2 rfl (by decide) (by decide) rfl rfl rfl hownA rfl (by simp) rfl rfl (by omega) hbelA.size ?_; intro v2 w2 hown2 hg2)
                  refine (H3 _).out.mono ?_
                  rintro e w3 ⟨rfl, rfl⟩
                  clear H3
                  go_wp2
                  go_ret2
                  exact ⟨rfl, hbelA.trans (grown_below hownA hg2 hbelA.size)⟩
                · obtain ⟨hx, hl2⟩ := rowP_more (acc := acc) hm hpB (by rw [hRl]; exact hb)
                  rw [hRl] at hl2 hx
                  have hRl2 : R.data.toList.length = R.size := by simp
                  rw [hRl2] at hl2
                  obtain ⟨R2, hR2⟩ : ∃ R2 : ByteArray, R.extract 2 R.size = R2 := ⟨_, rfl⟩
                  have hR2l : R.data.toList.drop 2 = R2.data.toList := by rw [← hR2, drop_extract]
                  have hR2s : R2.size ≤ R.size - 2 := by rw [← hR2]; simp
                  have HN : Hid (rowP (acc ++ [v]) R2.data.toList = x) := hid (by rw [← HK.out, hx, hR2l])
                  clear hRne hb hx hRl2 hR2l
                  clear HK hp hpB hCl hRl hm hBl
                  go_wp2_with fail
                  refine (H1 _).out.mono ?_
                  rintro e w1 ⟨rfl, rfl⟩
                  go_wp2_with fail
                  refine (H2 _ hbel).out.mono ?_
                  rintro e w1 ⟨rfl, b1⟩
                  have hbel1 := hbel.trans (b1.mono hbel.size)
                  have hown1 := own_below hown b1
                  have hbelA := hbel1.trans ((below_one w1 (.cells #[.int .i64 v.k, .int .i64 v.n, .string v.s] 67)).mono hbel1.size)
                  have hownA := own_below hown1 (below_one w1 (.cells #[.int .i64 v.k, .int .i64 v.n, .string v.s] 67))
                  clear H1 H2 b1 hown hown0
                  go_wp2_with (at_builtin; refine wpList_append_new2 Tryz.underlying33 hi hz0 hz1 hz2 rfl (by decide) (by decide) rfl rfl rfl hownA rfl (by simp) rfl rfl (by omega) hbelA.size ?_; intro v2 w2 hown2 hg2)
                  refine (H3 _).out.mono ?_
                  rintro e w3 ⟨rfl, rfl⟩
                  clear H3
                  go_wp2_with fail
                  go_roundw
                  case rel => exact ⟨R2, acc ++ [v], rfl, by simp; omega, flat_snoc hown2, HN, hbelA.trans (grown_below hownA hg2 hbelA.size)⟩
                  case measure => simp [bytesOf]; omega
              · have hRe2 : R.data.toList = [] := by
                  rw [Lib.toList_data] at hRe; simpa using hRe
                have hx := HK.out.symm.trans (rowP_end hm hpB (by rw [hRl]; exact hRe2))
                subst hx
                clear hRe2
                clear HK hp hpB hCl hRl hm hBl
                go_wp2_with fail
                refine (H1 _).out.mono ?_
                rintro e w1 ⟨rfl, rfl⟩
                go_wp2_with fail
                refine (H2 _ hbel).out.mono ?_
                rintro e w1 ⟨rfl, b1⟩
                have hbel1 := hbel.trans (b1.mono hbel.size)
                have hown1 := own_below hown b1
                have hbelA := hbel1.trans ((below_one w1 (.cells #[.int .i64 v.k, .int .i64 v.n, .string v.s] 67)).mono hbel1.size)
                have hownA := own_below hown1 (below_one w1 (.cells #[.int .i64 v.k, .int .i64 v.n, .string v.s] 67))
                clear H1 H2 b1 hown hown0
                go_wp2_with (at_builtin; refine wpList_append_new2 Tryz.underlying33 hi hz0 hz1 hz2 rfl (by decide) (by decide) rfl rfl rfl hownA rfl (by simp) rfl rfl (by omega) hbelA.size ?_; intro v2 w2 hown2 hg2; obtain ⟨A2, c2, rfl, -, -⟩ := own_rowc (flat_snoc hown2))
                go_ret2
                exact ⟨A2, c2, by simp, flat_snoc hown2, hbelA.trans (grown_below hownA hg2 hbelA.size)⟩
            · have hx := HK.out.symm.trans (rowP_bad (acc := acc) hm hpB hq)
              subst hx
              have bq : (q != 0) = true := by simpa using hq
              clear HK hp hpB hq hCl hRl hm hBl hRs hR
              go_wp2_with fail
              refine (H1 _).out.mono ?_
              rintro e w1 ⟨rfl, rfl⟩
              go_wp2_with fail
              refine (H2 _ hbel).out.mono ?_
              rintro e w1 ⟨rfl, b1⟩
              have hbel1 := hbel.trans (b1.mono hbel.size)
              have hbelA := hbel1.trans ((below_one w1 (.cells #[.int .i64 v.k, .int .i64 v.n, .string v.s] 67)).mono hbel1.size)
              clear H1 H2 b1 hown
              go_wp2
              go_ret2
              exact ⟨rfl, hbelA⟩
        · rw [if_pos (.inr (.inr (fun e => h41 (congrArg UInt8.toNat e))))] at hx
          subst hx
          have b41 : (((s[s.size - 1]'hl1).toNat : Int) != 41) = true := by rw [bne_iff_ne]; omega
          clear tl hll hE h40 h41
          go_enter Tryz.func79, Tryz.ntmps79
          go_wp2
          go_ret2
          exact ⟨rfl, Below.refl _ _⟩
      · rw [if_pos (.inr (.inl (fun e => h40 (congrArg UInt8.toNat e))))] at hx
        subst hx
        have b40 : ((s[0].toNat : Int) != 40) = true := by rw [bne_iff_ne]; omega
        clear tl hll hE h40
        go_enter Tryz.func79, Tryz.ntmps79
        go_wp2
        go_ret2
        exact ⟨rfl, Below.refl _ _⟩
  · have he : s.data.toList = [40, 41] := by
      have : s.toList = [40, 41] := by simpa using hb0
      rw [tl] at this
      exact this
    rw [if_pos he] at hx
    subst hx
    clear tl hll hE he
    go_enter Tryz.func79, Tryz.ntmps79
    go_wp2
    go_ret2
    exact ⟨none, 0, rfl, World.ownsRow_nil _ _ _ _, Below.refl _ _⟩
theorem row_parse (s : ByteArray) (w : World) (hs : s.size ≤ 100000) (hE : Env w) {x : Option (List V)} (hx : rowQ s.data.toList = x) :
    Calls Tryz.prog 79 #[.string s] w (RetRowE w x) := (row_parse_own s w hs hE hx).mono fun e w' h => by
  cases x with
  | none => exact h
  | some vs =>
    obtain ⟨A, c, h1, h2, h3⟩ := h
    obtain ⟨A', c', e', h4, h5⟩ := own_rowc h2
    injection e' with e1 _ e2
    subst e1 e2
    exact ⟨A, c, h1, h4, h5, h3⟩
end

/-! ### Sk3 -/
section
open Go.RowKit

theorem infoI64 : (Tryz.prog.info? 2).map (fun i => (i.zero, i.size, i.bytes)) = some (some (.int .i64 0), 1, 8) := by kernel_rfl
abbrev scaC (r : Str) (e : Bool) (op : Nat) (nm : Str) (u v : Value) (q : Str) : Array Value := #[.string ⟨r.toArray⟩, .bool e, .int .i64 0, .int .i64 op, .string ⟨nm.toArray⟩, u, v, .string ⟨q.toArray⟩]
/-- Beside blocks of int64, the scanner's box alone has turned, and nothing below it. -/
structure ScC (sp : Nat) (w w' : World) : Prop where
  os : w'.os = w.os
  tape : w'.tape = w.tape
  output : w'.output = w.output
  size : w.heap.size ≤ w'.heap.size
  block : ∀ k, k < w.heap.size → k ≠ sp → (k < sp ∨ ∀ cs fz, w.heap[k]? ≠ some (.cells cs 2 fz)) → w'.heap[k]? = w.heap[k]?
section
variable {sp : Nat} {w w1 w2 : World}
theorem ScC.refl (sp : Nat) (w : World) : ScC sp w w := ⟨rfl, rfl, rfl, Nat.le_refl _, fun _ _ _ _ => rfl⟩
theorem ScC.trans (h : ScC sp w w1) (k : ScC sp w1 w2) : ScC sp w w2 :=
  ⟨k.os.trans h.os, k.tape.trans h.tape, k.output.trans h.output, Nat.le_trans h.size k.size, fun j hj hs ho => by
    have e := h.block j hj hs ho
    rw [← e]
    exact k.block j (Nat.lt_of_lt_of_le hj h.size) hs (ho.imp id fun ho cs fz => by rw [e]; exact ho cs fz)⟩
theorem scc_below (h : Below w.heap.size w w1) : ScC sp w w1 := ⟨h.os, h.tape, h.output, h.size, fun k hk _ _ => h.block k hk⟩
theorem ScC.then (h : ScC sp w w1) (k : Below w1.heap.size w1 w2) : ScC sp w w2 := h.trans (scc_below k)
theorem ScC.set (h : ScC sp w w1) (i : Nat) (v : Value) : ScC sp w (w1.setCell ⟨sp, i, none⟩ v) :=
  ⟨h.os, h.tape, h.output, by simpa [World.setCell] using h.size, fun j hj hs ho => (Below.heap_setCell w1 ⟨sp, i, none⟩ v j hs).trans (h.block j hj hs ho)⟩
theorem ScC.grown (h : ScC sp w w1) {x : Option Nat} (k : w1.grownBy w2 x) (hx : ∀ b, x = some b → sp < b ∧ ∃ cs fz, w1.heap[b]? = some (.cells cs 2 fz)) : ScC sp w w2 :=
  ⟨k.os.trans h.os, k.tape.trans h.tape, k.output.trans h.output, Nat.le_trans h.size k.size, fun j hj hs ho => (k.block j (Nat.lt_of_lt_of_le hj h.size) (fun e => by
    obtain ⟨h1, cs, fz, h2⟩ := hx j e.symm
    rcases ho with ho | ho
    · omega
    · exact ho cs fz ((h.block j hj hs (.inr ho)).symm.trans h2))).trans (h.block j hj hs ho)⟩
theorem ScC.below (h : ScC sp w w1) {B : Nat} (hB : B ≤ sp) (hl : B ≤ w.heap.size) : Below B w w1 :=
  ⟨h.os, h.tape, h.output, h.size, fun k hk => h.block k (by omega) (by omega) (.inl (by omega))⟩
theorem ScC.kept (h : ScC sp w w1) {b : Nat} {cs : Array Value} {T : TypeId} (hb : w.heap[b]? = some (.cells cs T)) (hne : b ≠ sp) (hT : T ≠ 2) : w1.heap[b]? = some (.cells cs T) :=
  (h.block b (lt_of_block hb) hne (.inr (fun cs' fz e => by rw [hb] at e; injection e with e; injection e with _ e _; exact hT e))).trans hb
theorem ScC.cell (h : ScC sp w w1) {b o : Nat} {v : Value} (hc : w.cell? ⟨b, o, none⟩ = some v) (hb : b < sp) : w1.cell? ⟨b, o, none⟩ = some v :=
  (World.cell?_of_block (a := ⟨b, o, none⟩) (h.block b (cell_lt hc) (by omega) (.inl hb))).trans hc
theorem ScC.own (h : ScC sp w w1) {B e k n : Nat} {v : Value} {xs : List Value} (ho : w.ownsRow B e k v n xs) (hB : sp < B) (he : e ≠ 2) : w1.ownsRow B e k v n xs := by
  obtain ⟨hl, h0 | ⟨g, cap, cur, rfl, hg, hh, r⟩⟩ := ho
  · exact ⟨hl, .inl h0⟩
  · exact ⟨hl, .inr ⟨g, cap, cur, rfl, hg, h.kept hh (by omega) he, r⟩⟩
theorem own_block64 {B k n : Nat} {v : Value} {xs : List Value} (h : w.ownsRow B 2 k v n xs) (hB : sp < B) : ∀ b, v.ownBlock = some b → sp < b ∧ ∃ cs fz, w.heap[b]? = some (.cells cs 2 fz) := by
  intro b e
  have hb := (h.lt b e).1
  rcases h.2 with ⟨rfl, _⟩ | ⟨g, cap, cur, rfl, hg, hh, r⟩
  · cases e
  · have : g = b := by injection e
    subst this
    exact ⟨by omega, cur, _, hh⟩

/-- The scanner's box holds s. -/
structure SW (sp : Nat) (s : Sn) (w : World) : Prop where
  ex : ∃ u v, w.heap[sp]? = some (.cells (scaC s.rest s.ended s.c.op s.c.name u v s.c.query) 71) ∧ w.ownsRow (sp + 1) 2 1 u s.c.nums.length (s.c.nums.map (Value.int .i64)) ∧ w.ownsRow (sp + 1) 67 3 v s.c.row.length (flat s.c.row)
  few : s.c.nums.length + s.left.length ≤ 65537
variable {s : Sn}
theorem SW.lt (h : SW sp s w) : sp < w.heap.size := by obtain ⟨u, v, hb, _⟩ := h.ex; exact lt_of_block hb
theorem SW.below (h : SW sp s w) (hb : Below w.heap.size w w1) : SW sp s w1 := by
  have hl := h.lt
  obtain ⟨⟨u, v, h1, h2, h3⟩, hf⟩ := h
  exact ⟨⟨u, v, (hb.block sp hl).trans h1, own_belowS h2 hb, own_belowS h3 hb⟩, hf⟩
theorem own_set {B e k n : Nat} {u : Value} {xs : List Value} (h : w.ownsRow B e k u n xs) (hB : sp < B) (i : Nat) (x : Value) : (w.setCell ⟨sp, i, none⟩ x).ownsRow B e k u n xs :=
  ((Chg.refl [sp] w).set (b := sp) (.inl (by simp)) i x).ownS h (fun t ht => by simp at ht; omega)
theorem SW.put_word (h : SW sp s w) (r : Str) (e : Bool) (hf : s.c.nums.length + (Sn.left ⟨r, e, s.c⟩).length ≤ 65537) : SW sp ⟨r, e, s.c⟩ ((w.setCell ⟨sp, 0, none⟩ (.string ⟨r.toArray⟩)).setCell ⟨sp, 1, none⟩ (.bool e)) := by
  obtain ⟨⟨u, v, h1, h2, h3⟩, _⟩ := h
  exact ⟨⟨u, v, heap_setCell_same _ sp 1 _ _ _ (heap_setCell_same _ sp 0 _ _ _ h1), own_set (own_set h2 (by omega) 0 _) (by omega) 1 _, own_set (own_set h3 (by omega) 0 _) (by omega) 1 _⟩, hf⟩
theorem SW.put_ended (h : SW sp s w) (hf : s.c.nums.length ≤ 65537) : SW sp ⟨s.rest, true, s.c⟩ (w.setCell ⟨sp, 1, none⟩ (.bool true)) := by
  obtain ⟨⟨u, v, h1, h2, h3⟩, _⟩ := h
  exact ⟨⟨u, v, heap_setCell_same _ sp 1 _ _ _ h1, own_set h2 (by omega) 1 _, own_set h3 (by omega) 1 _⟩, by simpa [Sn.left] using hf⟩
theorem SW.put_rest (h : SW sp s w) (r : Str) (hf : s.c.nums.length + (Sn.left ⟨r, s.ended, s.c⟩).length ≤ 65537) : SW sp ⟨r, s.ended, s.c⟩ (w.setCell ⟨sp, 0, none⟩ (.string ⟨r.toArray⟩)) := by
  obtain ⟨⟨u, v, h1, h2, h3⟩, _⟩ := h
  exact ⟨⟨u, v, heap_setCell_same _ sp 0 _ _ _ h1, own_set h2 (by omega) 0 _, own_set h3 (by omega) 0 _⟩, hf⟩
theorem SW.put_name (h : SW sp s w) (n : Str) : SW sp ⟨s.rest, s.ended, { s.c with name := n }⟩ (w.setCell ⟨sp, 4, none⟩ (.string ⟨n.toArray⟩)) := by
  obtain ⟨⟨u, v, h1, h2, h3⟩, hf⟩ := h
  exact ⟨⟨u, v, heap_setCell_same _ sp 4 _ _ _ h1, own_set h2 (by omega) 4 _, own_set h3 (by omega) 4 _⟩, hf⟩
theorem SW.put_query (h : SW sp s w) (n : Str) : SW sp ⟨s.rest, s.ended, { s.c with query := n }⟩ (w.setCell ⟨sp, 7, none⟩ (.string ⟨n.toArray⟩)) := by
  obtain ⟨⟨u, v, h1, h2, h3⟩, hf⟩ := h
  exact ⟨⟨u, v, heap_setCell_same _ sp 7 _ _ _ h1, own_set h2 (by omega) 7 _, own_set h3 (by omega) 7 _⟩, hf⟩
theorem SW.put_row (h : SW sp s w) {v : Value} {r : List V} (hv : w.ownsRow (sp + 1) 67 3 v r.length (flat r)) : SW sp ⟨s.rest, s.ended, { s.c with row := r }⟩ (w.setCell ⟨sp, 6, none⟩ v) := by
  obtain ⟨⟨u, v0, h1, h2, _⟩, hf⟩ := h
  exact ⟨⟨u, v, heap_setCell_same _ sp 6 _ _ _ h1, own_set h2 (by omega) 6 _, own_set hv (by omega) 6 _⟩, hf⟩
/-- What is asked for an append to the numbers. -/
theorem SW.push {u v u' : Value} {n : Int} (h1 : w.heap[sp]? = some (.cells (scaC s.rest s.ended s.c.op s.c.name u v s.c.query) 71)) (h3 : w.ownsRow (sp + 1) 67 3 v s.c.row.length (flat s.c.row))
    (h2 : w.ownsRow (sp + 1) 2 1 u' (s.c.nums.length + 1) (s.c.nums.map (Value.int .i64) ++ [.int .i64 n])) (hf : s.c.nums.length + 1 + s.left.length ≤ 65537) : SW sp (s.push n) (w.setCell ⟨sp, 5, none⟩ u') := by
  refine ⟨⟨u', v, heap_setCell_same _ sp 5 _ _ _ h1, own_set ?_ (by omega) 5 _, own_set h3 (by omega) 5 _⟩, ?_⟩
  · show w.ownsRow (sp + 1) 2 1 u' (s.c.nums ++ [n]).length ((s.c.nums ++ [n]).map (Value.int .i64))
    rw [List.length_append, List.map_append]; exact h2
  · show (s.c.nums ++ [n]).length + (Sn.left s).length ≤ 65537
    rw [List.length_append]; exact hf
theorem word_few (h : s.ended = false) : s.word.2.left.length + 1 ≤ s.left.length := by
  rw [(word_left h).1, List.length_cons, List.length_append]; omega
theorem left_rest (h : s.ended = false) : s.left.length = s.rest.length + 1 := by unfold Sn.left; rw [h]; rfl
end
/-- What an argument's reader answers. -/
def RetSc (sp : Nat) (w : World) (x : Sn × Int) (e : Ending) (w' : World) : Prop := e = .returned (.int .i64 x.2) ∧ SW sp x.1 w' ∧ ScC sp w w'
end
end Go.Proofs.YtjhnopnppimnhaaGreatDoor
