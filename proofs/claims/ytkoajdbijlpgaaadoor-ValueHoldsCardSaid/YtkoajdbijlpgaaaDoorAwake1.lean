/-
  WALKS: ordinallaw01.great, ordinallaw01.of, ordinallaw01.awake (the examples of chapter 01).
-/
import Derived.Test.YtkoajdbijlpgaaaDoorPint
import Derived.Test.YtkoajdbijlpgaaaDoorKit2
namespace Go.Proofs.YtkoajdbijlpgaaaDoor
open Go.RowKit

/-- What the chapter's laws ask of the world: the table of powers of ten, the variable strconv.ErrRange. -/
structure Env (w : World) : Prop where
  tab : Tab w
  err : ErrAt w
theorem Env.below {w w' : World} (h : Env w) (hb : Below w.heap.size w w') : Env w' := ⟨h.tab.below hb, h.err.below hb⟩

def exS : V := strV [97, 0, 34]
theorem exS_make : makeStr (ByteArray.mk #[97, 0, 34]).data.toList = (exS, 0) := by rfl
theorem ex007 : parseL (ByteArray.mk #[48, 48, 55]).data.toList = (V0, 15) := by rfl
theorem ex41 : parseL (ByteArray.mk #[34, 92, 120, 52, 49, 34]).data.toList = (V0, 15) := by
  have h : parseL [34, 92, 120, 52, 49, 34] = pStr [92, 120, 52, 49, 34] := by rfl
  show parseL [34, 92, 120, 52, 49, 34] = _
  rw [h, pStr_res, scan, if_neg (by simp), if_neg (by decide), if_pos (by rfl)]; rfl
theorem exS_text : textL exS = [34, 97, 92, 120, 48, 48, 92, 34, 34] := by
  rw [textL_str (by decide +kernel) (by decide)]; rfl
def ex9 : V := ⟨1, 9, ⟨#[]⟩⟩
def ex0 : V := ⟨2, 0, ⟨#[]⟩⟩
theorem ex_cmp : V.cmp ex9 ex0 = -1 := by decide

set_option maxRecDepth 100000 in
set_option maxHeartbeats 1000000 in
theorem awake1 (w : World) (hE : Env w) : Calls Tryd.prog 39 #[] w fun e w' => e = .returned (.bool true) ∧ Below w.heap.size w w' := by
  have H1 := fun W => hid (value_str ⟨#[97, 0, 34]⟩ W (by decide) exS_make)
  have H2 := fun W (h : Below w.heap.size w W) => hid (parse_lit ⟨#[48, 48, 55]⟩ W (by decide) (hE.below h).err ex007)
  have H3 := fun W (h : Below w.heap.size w W) => hid (parse_lit ⟨#[34, 92, 120, 52, 49, 34]⟩ W (by decide) (hE.below h).err ex41)
  have H4 := fun W (h : Below w.heap.size w W) => hid (value_text exS W ⟨by decide, by decide⟩ (by decide) (hE.below h).tab exS_text)
  have H5 := fun W => hid (value_int 9 W)
  have H6 := fun W => hid (value_cmp ex9 ex0 W ex_cmp)
  clear hE
  go_enter Tryd.func39, Tryd.ntmps39
  go_wp2_with fail
  refine (H1 _).out.mono ?_
  rintro e w1 ⟨rfl, k1⟩
  have k1a := k1.trans ((below_one w1 (.cells #[.int .i64 2, .int .i64 0, .string ⟨#[97, 0, 34]⟩] 41)).mono k1.size)
  have hz1 := heap_alloc_new w1 (.cells #[.int .i64 2, .int .i64 0, .string ⟨#[97, 0, 34]⟩] 41)
  go_wp2_with fail
  refine (H2 _ k1a).out.mono ?_
  rintro e w2 ⟨rfl, b2⟩
  have k2 := k1a.trans (b2.mono k1a.size)
  have hz2 := res_keep hz1 b2 (by simp)
  have hs2 : w1.heap.size < w2.heap.size := by have := b2.size; simp at this; omega
  have k2a := k2.trans ((below_one w2 (.cells #[.int .i64 0, .int .i64 0, .string ⟨#[]⟩] 41)).mono k2.size)
  clear k1a hz1 b2 H1 H2
  go_wp2_with fail
  refine (H3 _ k2a).out.mono ?_
  rintro e w3 ⟨rfl, b3⟩
  have k3 := k2a.trans (b3.mono k2a.size)
  have hz3 := res_keep (res_keep hz2 (below_one w2 _) hs2) b3 (by simp; omega)
  have hs3 : w1.heap.size < w3.heap.size := by have := b3.size; simp at this; omega
  have k3a := k3.trans ((below_one w3 (.cells #[.int .i64 0, .int .i64 0, .string ⟨#[]⟩] 41)).mono k3.size)
  have c0 : w3.cell? ⟨w1.heap.size, 0, none⟩ = some (.int .i64 2) := cell_res hz3 0
  have c1 : w3.cell? ⟨w1.heap.size, 1, none⟩ = some (.int .i64 0) := cell_res hz3 1
  have c2 : w3.cell? ⟨w1.heap.size, 2, none⟩ = some (.string ⟨#[97, 0, 34]⟩) := cell_res hz3 2
  clear k2a hz2 b3 H3 k2 hz3 k1 hs2
  go_wp2_with fail
  refine (H4 _ k3a).out.mono ?_
  rintro e w4 ⟨rfl, b4⟩
  have k4 := k3a.trans (b4.mono k3a.size)
  clear H4 b4 k3 k3a c0 c1 c2
  go_wp2_with fail
  refine (H5 _).out.mono ?_
  rintro e w5 ⟨rfl, b5⟩
  have k5 := k4.trans (b5.mono k4.size)
  clear H5 b5 k4
  go_wp2_with fail
  refine (H6 _).out.mono ?_
  rintro e w6 ⟨rfl, b6⟩
  have k6 := k5.trans (b6.mono k5.size)
  clear H6 b6 k5
  go_wp2
  go_ret
  exact ⟨rfl, k6⟩

theorem law_of1 (v : V) (w : World) :
    Calls Tryd.prog 43 #[.agg #[.int .i64 v.k, .int .i64 v.n, .string v.s]] w fun e w' => e = .returned (.agg #[.int .i64 v.k, .int .i64 v.n, .string v.s]) ∧ Below w.heap.size w w' := by
  obtain ⟨k, n, s⟩ := v
  go_enter Tryd.func43, Tryd.ntmps43
  go_wp2
  go_returns
  exact ⟨rfl, below_two _ _ _⟩

/-- Is a string too long for the statements? -/
def greatL (l : List ByteArray) : Bool := l.any fun s => decide (300 < s.size)

/-- Strings that lie in a row. -/
def StrsAt (w : World) (A : Option Addr) (l : List ByteArray) : Prop :=
  0 < l.length → ∃ b, A = some ⟨b, 0, none⟩ ∧ b < w.heap.size ∧ ∀ j (hj : j < l.length), w.cell? ⟨b, j, none⟩ = some (.string l[j])
theorem StrsAt.below {w w' : World} {A : Option Addr} {l : List ByteArray} (h : StrsAt w A l) (hb : Below w.heap.size w w') : StrsAt w' A l := fun hp => by
  obtain ⟨b, h1, h2, h3⟩ := h hp
  exact ⟨b, h1, by have := hb.size; omega, fun j hj => by rw [hb.cell (p := ⟨b, j, none⟩) h2]; exact h3 j hj⟩
theorem strsAt_new (w : World) (b : Nat) (hb : w.heap.size = b) (l : List ByteArray) (t : TypeId) : StrsAt (w.alloc (.cells (l.map Value.string).toArray t)) (some ⟨b, 0, none⟩) l := fun _ =>
  ⟨b, rfl, by simp [← hb], fun j hj => by rw [← hb, cell_res (heap_alloc_new w _)]; simp [hj]⟩

theorem greatL_step {l : List ByteArray} {k : Nat} (h : k < l.length) (h' : ¬ 300 < l[k].size) : greatL (l.drop k) = greatL (l.drop (k + 1)) := by
  rw [List.drop_eq_getElem_cons h]; unfold greatL; rw [List.any_cons]; simp only [h', decide_false, Bool.false_or]
theorem greatL_stop {l : List ByteArray} {k : Nat} (h : k < l.length) (h' : 300 < l[k].size) : greatL (l.drop k) = true := by
  rw [List.drop_eq_getElem_cons h]; unfold greatL; rw [List.any_cons]; simp only [h', decide_true, Bool.true_or]

theorem law_great (A : Option Addr) (c : Nat) (l : List ByteArray) (w : World) (h : StrsAt w A l) (hl : l.length ≤ 10) {x : Bool} (hx : greatL l = x) :
    Calls Tryd.prog 38 #[.slice A l.length c] w fun e w' => e = .returned (.bool x) ∧ Below w.heap.size w w' := by
  have HX : Hid (greatL (l.drop 0) = x) := hid hx
  clear hx
  go_enter Tryd.func38, Tryd.ntmps38
  go_wp2
  go_loopw [7] (fun i wr => ∃ (k : Nat), k ≤ l.length ∧ i = .int .i64 k ∧ Hid (greatL (l.drop k) = x) ∧ Below w.heap.size w wr) (fun i _ => l.length - (intOf i).toNat)
  case atStart => exact ⟨0, by omega, rfl, HX, Below.refl _ _⟩
  case round =>
    obtain ⟨k, hk, rfl, HK, hbel⟩ := hrel
    clear HX
    by_cases hlt : k < l.length
    · obtain ⟨b, rfl, hb, hc⟩ := h (by omega)
      have c0 := hc k hlt
      rw [← hbel.cell (p := ⟨b, k, none⟩) hb] at c0
      by_cases h3 : 300 < l[k].size
      · rw [greatL_stop hlt h3] at HK
        obtain rfl := HK.out
        generalize l[k] = s at *
        clear hc h
        go_wp2
        go_ret
        exact ⟨rfl, hbel⟩
      · rw [greatL_step hlt h3] at HK
        generalize l[k] = s at *
        clear hc h
        go_wp2
        go_roundw
        case rel => exact ⟨k + 1, by omega, by go_num, HK, hbel⟩
        case measure => simp [intOf]; omega
    · have e : l.drop k = [] := List.drop_eq_nil_of_le (by omega)
      rw [e] at HK
      obtain rfl : false = x := HK.out
      clear h HK
      go_wp2
      go_ret
      exact ⟨rfl, hbel⟩
end Go.Proofs.YtkoajdbijlpgaaaDoor
