/-
  PARTS of a claim, merged by segs.py: RefCmp, Proj, Ref2, Rw4, RtT, Rw3, Rw6, Awake2, Few, Projects, Valid, Open, RTexts, Sk12.
-/
import Derived.Test.YtjhnopnppimnhaaGreatDoorZ20
import Derived.Test.YtjhnopnppimnhaaGreatDoorZ10
import Derived.Test.YtjhnopnppimnhaaGreatDoorZ36
import Derived.Test.YtjhnopnppimnhaaGreatDoorZ15
import Derived.Test.YtjhnopnppimnhaaGreatDoorZ19
import Derived.Test.YtjhnopnppimnhaaGreatDoorZ06
import Derived.Test.YtjhnopnppimnhaaGreatDoorZ07
import Derived.Test.YtjhnopnppimnhaaGreatDoorProg
namespace Go.Proofs.YtjhnopnppimnhaaGreatDoor

/-! ### RefCmp -/
section
open Go.RowKit

theorem cmpB_step {a b : List UInt8} {k : Nat} (h : k < a.length) (h' : k < b.length) (e : a[k].toNat = b[k].toNat) :
    Lib.compareBytes (a.drop k) (b.drop k) = Lib.compareBytes (a.drop (k + 1)) (b.drop (k + 1)) := by
  rw [List.drop_eq_getElem_cons h, List.drop_eq_getElem_cons h']
  have : a[k] = b[k] := UInt8.toNat.inj e
  simp [Lib.compareBytes, this]
theorem cmpB_lt {a b : List UInt8} {k : Nat} (h : k < a.length) (h' : k < b.length) (e : a[k].toNat < b[k].toNat) : Lib.compareBytes (a.drop k) (b.drop k) = -1 := by
  rw [List.drop_eq_getElem_cons h, List.drop_eq_getElem_cons h']
  simp only [Lib.compareBytes, UInt8.lt_iff_toNat_lt]; rw [if_pos e]
theorem cmpB_gt {a b : List UInt8} {k : Nat} (h : k < a.length) (h' : k < b.length) (e : b[k].toNat < a[k].toNat) : Lib.compareBytes (a.drop k) (b.drop k) = 1 := by
  rw [List.drop_eq_getElem_cons h, List.drop_eq_getElem_cons h']
  simp only [Lib.compareBytes, UInt8.lt_iff_toNat_lt]; rw [if_neg (by omega), if_pos e]

/-- The sign of a number. -/
def sgn (r : Int) : Int := if r < 0 then -1 else if 0 < r then 1 else 0
theorem cmpB_end {a b : List UInt8} {k : Nat} (h : k ≤ a.length) (h' : k ≤ b.length) (hk : k = a.length ∨ k = b.length) :
    Lib.compareBytes (a.drop k) (b.drop k) = sgn ((a.length : Int) - b.length) := by
  unfold sgn
  rcases hk with hk | hk
  · have e : a.drop k = [] := List.drop_eq_nil_of_le (by omega)
    rw [e]
    by_cases hl : a.length < b.length
    · rw [if_pos (by omega), List.drop_eq_getElem_cons (show k < b.length by omega)]; rfl
    · have e' : b.drop k = [] := List.drop_eq_nil_of_le (by omega)
      rw [if_neg (by omega), if_neg (by omega), e']; rfl
  · have e : b.drop k = [] := List.drop_eq_nil_of_le (by omega)
    rw [e]
    by_cases hl : b.length < a.length
    · rw [if_neg (by omega), if_pos (by omega), List.drop_eq_getElem_cons (show k < a.length by omega)]; rfl
    · have e' : a.drop k = [] := List.drop_eq_nil_of_le (by omega)
      rw [if_neg (by omega), if_neg (by omega), e']; rfl

/-- A call that returns a number of a known sign. -/
def RetSgn (w : World) (x : Int) (e : Ending) (w' : World) : Prop := ∃ r : Int, e = .returned (.int .i64 r) ∧ sgn r = x ∧ Below w.heap.size w w'

theorem below_drew' {w w' : World} (n : Nat) (h : Below w.heap.size w w') : Below w.heap.size w (w'.drewN n) := below_drewN h n

theorem sgn_lt {r : Int} (h : sgn r = -1) : r < 0 := by
  unfold sgn at h
  by_cases h1 : r < 0
  · exact h1
  · rw [if_neg h1] at h
    by_cases h2 : 0 < r
    · rw [if_pos h2] at h; omega
    · rw [if_neg h2] at h; omega
theorem sgn_gt {r : Int} (h : sgn r = 1) : 0 < r := by
  unfold sgn at h
  by_cases h1 : r < 0
  · rw [if_pos h1] at h; omega
  · rw [if_neg h1] at h
    by_cases h2 : 0 < r
    · exact h2
    · rw [if_neg h2] at h; omega
theorem sgn_eq {r : Int} (h : sgn r = 0) : r = 0 := by
  unfold sgn at h
  by_cases h1 : r < 0
  · rw [if_pos h1] at h; omega
  · rw [if_neg h1] at h
    by_cases h2 : 0 < r
    · rw [if_pos h2] at h; omega
    · omega

/-- Every string is of a length that an int can bear. -/
def StrOk (r : List V) : Prop := ∀ v ∈ r, v.s.size ≤ 9223372036854775807

end

/-! ### Proj -/
section
open Go.RowKit

/-- Is a column one of the row's? -/
def colOk (n : Nat) (c : Int) : Bool := decide (0 ≤ c) && decide (c < n)
def projOk (n : Nat) (cols : List Int) : Bool := cols.all (colOk n)
def V.zero : V := ⟨0, 0, ⟨#[]⟩⟩
def projV (r : List V) (cols : List Int) : List V := cols.map fun c => r.getD c.toNat V.zero

/-- What row.Project returns. -/
def RetProj (w : World) (r : List V) (cols : List Int) (e : Ending) (w' : World) : Prop :=
  (projOk r.length cols = true → ∃ g c, e = .returned (.tuple #[.slice (some ⟨g, 0, none⟩) cols.length c, .int .i64 0]) ∧ w'.ownsRow w.heap.size 67 3 (.slice (some ⟨g, 0, none⟩) cols.length c) cols.length (flat (projV r cols))) ∧
  (projOk r.length cols = false → e = .returned (.tuple #[.slice none 0 0, .int .i64 3])) ∧ Below w.heap.size w w'

theorem own_store3 {w : World} {B g : Nat} {e : TypeId} {n cap : Nat} {xs : List Value} (h : w.ownsRow B e 3 (.slice (some ⟨g, 0, none⟩) n cap) n xs) (hB : B ≤ g) (j : Nat) (x y z : Value) :
    (((w.setCell ⟨g, j, none⟩ x).setCell ⟨g, j + 1, none⟩ y).setCell ⟨g, j + 2, none⟩ z).ownsRow B e 3 (.slice (some ⟨g, 0, none⟩) n cap) n (((xs.set j x).set (j + 1) y).set (j + 2) z) ∧
    Below B w (((w.setCell ⟨g, j, none⟩ x).setCell ⟨g, j + 1, none⟩ y).setCell ⟨g, j + 2, none⟩ z) :=
  ⟨(((h.stored j x).1.stored (j + 1) y).1.stored (j + 2) z).1,
   (((Below.refl _ _).setCell (p := ⟨g, j, none⟩) hB _).setCell (p := ⟨g, j + 1, none⟩) hB _).setCell (p := ⟨g, j + 2, none⟩) hB _⟩

theorem take_set3 {xs F : List Value} {m : Nat} (h : xs.take m = F) (hl : m + 3 ≤ xs.length) (x y z : Value) : (((xs.set m x).set (m + 1) y).set (m + 2) z).take (m + 3) = F ++ [x, y, z] := by
  subst h
  apply List.ext_getElem?
  intro i
  simp only [List.getElem?_take, List.getElem?_set, List.length_set]
  by_cases h0 : i < m
  · rw [List.getElem?_append_left (by simp; omega)]
    simp [h0, show i < m + 3 by omega, show m ≠ i by omega, show m + 1 ≠ i by omega, show m + 2 ≠ i by omega]
  · rw [List.getElem?_append_right (by simp; omega)]
    have hlt : (xs.take m).length = m := by simp; omega
    rw [hlt]
    by_cases h3 : i < m + 3
    · obtain e | e | e : i = m ∨ i = m + 1 ∨ i = m + 2 := by omega
      · subst e; simp; omega
      · subst e; simp; omega
      · subst e; simp; omega
    · rw [if_neg h3, List.getElem?_eq_none (by simp; omega)]

end

/-! ### Ref2 -/
section
open Go.RowKit

theorem flat_take_succ {r : List V} {k : Nat} (h : k < r.length) : flat (r.take (k + 1)) = flat (r.take k) ++ [.int .i64 r[k].k, .int .i64 r[k].n, .string r[k].s] := by
  rw [List.take_succ_eq_append_getElem h, flat_append]; rfl

theorem own_row_new {w : World} {B : Nat} {e : TypeId} {v : Value} {r : List V} (h : w.ownsRow B e 3 v r.length (flat r)) : ∃ A c, v = .slice A r.length c ∧ RowAt w A r ∧ (∀ ad, A = some ad → B ≤ ad.block) ∧ r.length ≤ c := by
  have h' := h
  obtain ⟨A, c, rfl, hr⟩ := own_row h
  refine ⟨A, c, rfl, hr, fun ad he => ?_, ?_⟩
  · subst he
    exact (h'.lt ad.block rfl).1
  · rcases h'.2 with ⟨he, h0⟩ | ⟨g, cap, cur, he, hB, hh, hn, _⟩
    · omega
    · injection he with _ _ he
      omega

/-- A call that returns a row in NEW memory. -/
def RetNew (w : World) (r : List V) (e : Ending) (w' : World) : Prop := ∃ A c, e = .returned (.slice A r.length c) ∧ RowAt w' A r ∧ (∀ ad, A = some ad → w.heap.size ≤ ad.block) ∧ r.length ≤ c ∧ Below w.heap.size w w'

/-- What the reference's Project returns. -/
def RetRefProj (w : World) (r : List V) (cols : List Int) (e : Ending) (w' : World) : Prop :=
  (projOk r.length cols = true → ∃ A c, e = .returned (.tuple #[.slice A cols.length c, .int .i64 0]) ∧ RowAt w' A (projV r cols)) ∧
  (projOk r.length cols = false → e = .returned (.tuple #[.slice none 0 0, .int .i64 3])) ∧ Below w.heap.size w w'

theorem projV_length (r : List V) (cols : List Int) : (projV r cols).length = cols.length := by simp [projV]

theorem RowAt.grown {w w' : World} {A : Option Addr} {r : List V} {g : Nat} (h : RowAt w A r) (hg : w.grownBy w' (some g)) (hA : ∀ ad, A = some ad → ad.block ≠ g) : RowAt w' A r := by
  intro hl
  obtain ⟨b, o, e, hc⟩ := h hl
  have hne : some b ≠ some g := fun he => hA _ e (by injection he)
  refine ⟨b, o, e, fun i hi => ?_⟩
  obtain ⟨h0, h1, h2⟩ := hc i hi
  have hb : w'.heap[b]? = w.heap[b]? := hg.block b (cell_lt h0) hne
  exact ⟨(World.cell?_of_block (a := ⟨b, _, none⟩) hb).trans h0, (World.cell?_of_block (a := ⟨b, _, none⟩) hb).trans h1, (World.cell?_of_block (a := ⟨b, _, none⟩) hb).trans h2⟩

theorem grown_refl (w : World) (row : Option Nat) : w.grownBy w row := ⟨rfl, rfl, rfl, Nat.le_refl _, fun _ _ _ => rfl⟩
theorem grown_set {a w : World} {g : Nat} (h : a.grownBy w (some g)) (j : Nat) (u : Value) : a.grownBy (w.setCell ⟨g, j, none⟩ u) (some g) :=
  ⟨h.os, h.tape, h.output, by simpa [World.setCell] using h.size, fun i hi hne => (Below.heap_setCell w ⟨g, j, none⟩ u i (fun e => hne (by rw [e]))).trans (h.block i hi hne)⟩
theorem below_of_grown {a w : World} {g B : Nat} (h : a.grownBy w (some g)) (hB : B ≤ g) (hB' : B ≤ a.heap.size) : Below B a w :=
  ⟨h.os, h.tape, h.output, h.size, fun k hk => h.block k (by omega) (fun e => by injection e; omega)⟩

end

/-! ### Rw4 -/
section
open Go.RowKit

theorem allP_cons {x : List UInt8} {r : List (List UInt8)} {v : V} {q : Int} (hp : parseL x = (v, q)) : allP (x :: r) = if q ≠ 0 then none else (allP r).map (v :: ·) := by
  rw [allP, hp]
theorem glueP (acc : List V) (v : V) (o : Option (List V)) : (o.map (v :: ·)).map (acc ++ ·) = o.map ((acc ++ [v]) ++ ·) := by
  cases o with
  | none => rfl
  | some l => simp
theorem flat_snocR {w : World} {B : Nat} {e : TypeId} {u : Value} {l : List V} {v : V} (h : w.ownsRow B e 3 u (l.length + 1) (flat l ++ [.int .i64 v.k, .int .i64 v.n, .string v.s])) : w.ownsRow B e 3 u (l ++ [v]).length (flat (l ++ [v])) := by
  rw [List.length_append, flat_append]; exact h
theorem strs_cell {w : World} {B : Nat} {e : TypeId} {g n cap : Nat} {X : List (List UInt8)} (h : w.ownsRow B e 1 (.slice (some ⟨g, 0, none⟩) n cap) X.length (X.map strV')) {k : Nat} (hk : k < X.length) {y : List UInt8} (hy : X[k] = y) : w.cell? ⟨g, k, none⟩ = some (.string ⟨y.toArray⟩) := by
  have h2 := h
  rcases h.2 with ⟨h1, _⟩ | ⟨g', cap', cur, h1, _⟩
  · cases h1
  · injection h1 with e1 e2 e3
    subst e2 e3
    have := h2.cellAt k (by simpa using hk)
    rw [this, List.getElem?_map, List.getElem?_eq_getElem hk, hy]; rfl

theorem joinC_len : ∀ (ps : List (List UInt8)), ps.length ≤ (joinC ps).length + 1 ∧ ∀ x ∈ ps, x.length ≤ (joinC ps).length
  | [] => by simp [joinC]
  | [x] => by simp [joinC]
  | x :: y :: r => by
    obtain ⟨h1, h2⟩ := joinC_len (y :: r)
    rw [joinC]
    simp only [List.length_cons, List.length_append, List.length_nil] at *
    refine ⟨by omega, fun z hz => ?_⟩
    rcases List.mem_cons.1 hz with rfl | hz
    · omega
    · have := h2 z hz; omega
theorem split_bd (l : List UInt8) : (splitGo false false [] l).length ≤ l.length + 1 ∧ ∀ x ∈ splitGo false false [] l, x.length ≤ l.length := by
  have h := joinC_len (splitGo false false [] l)
  rw [splitGo_join _ l false false [] (Nat.le_refl _)] at h
  simpa using h

end

/-! ### RtT -/
section
open Go.RowKit

theorem dec_rec (u : Nat) (h : ¬ u < 10) : Lib.decDigits u = Lib.decDigits (u / 10) ++ Lib.decDigits (u % 10) := by
  rw [Lib.decDigits, dif_neg h, Lib.decDigits_one (Nat.mod_lt _ (by omega))]

theorem dec_len : ∀ (k u : Nat), u < 10 ^ (k + 1) → (Lib.decDigits u).length ≤ k + 1
  | 0, u, h => by rw [Lib.decDigits_one (by simpa using h)]; simp
  | k + 1, u, h => by
    by_cases h1 : u < 10
    · rw [Lib.decDigits_one h1]; simp
    · rw [dec_rec u h1, Lib.decDigits_one (i := u % 10) (Nat.mod_lt _ (by omega)), List.length_append]
      have := dec_len k (u / 10) (by rw [Nat.pow_succ] at h; omega)
      simp; omega
theorem dec_len20 (u : Nat) (h : u ≤ 18446744073709551615) : (Lib.decDigits u).length ≤ 20 := dec_len 19 u (by omega)

theorem itoa_cases (n : Int) : (n < 0 → Lib.itoa n = 45 :: Lib.decDigits (-n).toNat) ∧ (¬ n < 0 → Lib.itoa n = Lib.decDigits n.toNat) := by
  unfold Lib.itoa
  refine ⟨fun h => by rw [if_pos h]; congr 2; omega, fun h => by rw [if_neg h]⟩

theorem wrap_neg (n : Int) (h : I64 n) (h0 : n < 0) : IntKind.u64.wrap (-IntKind.u64.wrap n) = - n := by
  unfold I64 at h
  simp [IntKind.wrap, IntKind.signed, IntKind.bits]
  omega
theorem wrap_pos (n : Int) (h : I64 n) (h0 : ¬ n < 0) : IntKind.u64.wrap n = n := by
  unfold I64 at h
  simp [IntKind.wrap, IntKind.signed, IntKind.bits]
  omega

end

/-! ### Rw3 -/
section
open Go.RowKit

theorem catT (T : ByteArray) (x : List UInt8) : (T ++ (⟨x.toArray⟩ : ByteArray)).data.toList = T.data.toList ++ x := by
  simp [ByteArray.data_append]
theorem sizeT (x : List UInt8) : (⟨x.toArray⟩ : ByteArray).size = x.length := by simp [ByteArray.size]
theorem ret_B {a b : ByteArray} (h : a = b) : Ending.returned (.string a) = .returned (.string b) := by rw [h]
theorem of_list {T : ByteArray} {l : List UInt8} (h : T.data.toList = l) : T = ⟨l.toArray⟩ := ByteArray.ext (by rw [← h])

end

/-! ### Rw6 -/
section

theorem ok_of {v : V} (hv : v.valid = true) (hn : I64 v.n) : v.ok ∧ v.s.size ≤ 24 ∧ (textL v).length ≤ 100 := by
  by_cases h1 : v.k = 1
  · have hs : v.s.toList.isEmpty = true := by simpa [V.valid, h1] using hv
    have hs0 : v.s.size = 0 := by
      rw [Lib.toList_data] at hs
      have : v.s.data.toList = [] := by simpa using hs
      have e : v.s.data.toList.length = v.s.size := by simp
      rw [this] at e; simpa using e.symm
    refine ⟨⟨by rw [h1]; unfold I64; omega, hn, by omega⟩, by omega, ?_⟩
    rw [textL_int hv h1]
    have := Lib.itoa_length_le v.n hn.1 hn.2
    omega
  · have h2 : v.k = 2 := by
      apply Classical.byContradiction
      intro h2
      simp [V.valid, h1, h2] at hv
    have hs : v.s.size ≤ 24 := by
      have : v.n = 0 ∧ v.s.size ≤ 24 := by simpa [V.valid, h2] using hv
      exact this.2
    refine ⟨⟨by rw [h2]; unfold I64; omega, hn, by omega⟩, hs, ?_⟩
    rw [textL_str hv h1]
    have := quoteL_le v.s.data.toList
    have e : v.s.data.toList.length = v.s.size := by simp
    omega
theorem rowBody_len : ∀ (vs : List V), (∀ v ∈ vs, (textL v).length ≤ 100) → (rowBody vs).length ≤ 102 * vs.length
  | [], _ => by simp [rowBody]
  | [v], h => by have := h v (by simp); rw [rowBody_one']; simp only [List.length_cons, List.length_nil]; omega
  | v :: u :: us, h => by
    have := rowBody_len (u :: us) fun x hx => h x (by simp [hx])
    have := h v (by simp)
    rw [rowBody_more]
    simp only [List.length_append, List.length_cons, List.length_nil] at *
    omega
end

/-! ### Awake2 -/
section
open Go.RowKit

theorem rowAt_lit {w : World} {g : Nat} {t : TypeId} {fz : Nat × Nat} (r : List V) (h : w.heap[g]? = some (.cells (flat r).toArray t fz)) : RowAt w (some ⟨g, 0, none⟩) r := by
  intro hp
  refine ⟨g, 0, rfl, fun i hi => ?_⟩
  obtain ⟨e0, e1, e2⟩ := flat_get r i hi
  refine ⟨?_, ?_, ?_⟩
  · rw [cell_of_row w g _ _ t fz h, Nat.zero_add]; simpa using e0
  · rw [cell_of_row w g _ _ t fz h, Nat.zero_add]; simpa using e1
  · rw [cell_of_row w g _ _ t fz h, Nat.zero_add]; simpa using e2

theorem intsAt_lit {w : World} {g : Nat} {t : TypeId} {fz : Nat × Nat} (l : List Int) (h : w.heap[g]? = some (.cells (l.map (Value.int .i64)).toArray t fz)) : IntsAt w (some ⟨g, 0, none⟩) l := by
  intro hp
  refine ⟨g, 0, rfl, fun i hi => ?_⟩
  rw [cell_of_row w g _ _ t fz h, Nat.zero_add]
  simp [hi]

theorem boolsAt_lit {w : World} {g : Nat} {t : TypeId} {fz : Nat × Nat} (l : List Bool) (h : w.heap[g]? = some (.cells (l.map Value.bool).toArray t fz)) : BoolsAt w (some ⟨g, 0, none⟩) l := by
  intro hp
  refine ⟨g, 0, rfl, fun i hi => ?_⟩
  rw [cell_of_row w g _ _ t fz h, Nat.zero_add]
  simp [hi]

def exA : List V := [⟨1, 1, ⟨#[]⟩⟩, ⟨2, 0, ⟨#[97]⟩⟩]
def exB : List V := [⟨1, 1, ⟨#[]⟩⟩, ⟨2, 0, ⟨#[98]⟩⟩]
def exT : List V := [⟨1, -3, ⟨#[]⟩⟩, ⟨2, 0, ⟨#[120, 34, 121]⟩⟩]

theorem ex1 : rowCmp [] exA exB = -1 := by decide +kernel
theorem ex2 : rowCmp [false, true] exA exB = 1 := by decide +kernel
theorem ex3 : rowCmp [true, true] ([1].map intV) ([1, 2].map intV) = -1 := by decide +kernel
theorem ex4 : projV ([5, 6, 7].map intV) [2, 0, 2] = [7, 5, 7].map intV := by rfl
theorem ex5 : decide (rowCmp [] ([7, 5, 7].map intV) ([7, 5, 7].map intV) = 0) = true := by decide +kernel
theorem ex6 : rowTextL exT = [40, 45, 51, 44, 32, 34, 120, 92, 34, 121, 34, 41] := by
  have e1 : textL ⟨1, -3, ⟨#[]⟩⟩ = [45, 51] := by
    rw [textL_int (by decide +kernel) rfl]; unfold Lib.itoa Lib.decDigits; rfl
  have e2 : textL ⟨2, 0, ⟨#[120, 34, 121]⟩⟩ = [34, 120, 92, 34, 121, 34] := by
    rw [textL_str (by decide +kernel) (by decide)]; decide
  simp only [rowTextL, rowBody, exT, e1, e2, List.flatMap_cons, List.flatMap_nil]
  rfl
theorem exTok : ∀ v ∈ exT, v.ok := by
  intro v hv
  simp [exT] at hv
  rcases hv with rfl | rfl
  · exact ⟨⟨by decide, by decide⟩, ⟨by decide, by decide⟩, by decide⟩
  · exact ⟨⟨by decide, by decide⟩, ⟨by decide, by decide⟩, by decide⟩

theorem heap1 (w : World) (o1 : Obj) : (w.alloc o1).heap[w.heap.size]? = some o1 := heap_alloc_new w o1
theorem heap2 (w : World) (o1 o2 : Obj) : ((w.alloc o1).alloc o2).heap[w.heap.size]? = some o1 ∧ ((w.alloc o1).alloc o2).heap[w.heap.size + 1]? = some o2 :=
  ⟨(Below.heap_alloc _ _ _ (by simp)).trans (heap1 w o1), by have := heap_alloc_new (w.alloc o1) o2; simpa using this⟩
theorem heap3 (w : World) (o1 o2 o3 : Obj) : (((w.alloc o1).alloc o2).alloc o3).heap[w.heap.size]? = some o1 ∧ (((w.alloc o1).alloc o2).alloc o3).heap[w.heap.size + 1]? = some o2 ∧ (((w.alloc o1).alloc o2).alloc o3).heap[w.heap.size + 1 + 1]? = some o3 :=
  ⟨(Below.heap_alloc _ _ _ (by simp; omega)).trans (heap2 w o1 o2).1, (Below.heap_alloc _ _ _ (by simp)).trans (heap2 w o1 o2).2, by have := heap_alloc_new ((w.alloc o1).alloc o2) o3; simpa using this⟩

end

/-! ### Few -/
section
open Go.RowKit

/-- A slice of rows. -/
def RowsAt (w : World) (A : Option Addr) (rs : List (List V)) : Prop :=
  0 < rs.length → ∃ b o, A = some ⟨b, o, none⟩ ∧ ∀ i (h : i < rs.length), ∃ A' c, w.cell? ⟨b, o + i, none⟩ = some (.slice A' rs[i].length c) ∧ RowAt w A' rs[i]

theorem RowsAt.below {w w' : World} {A : Option Addr} {rs : List (List V)} (h : RowsAt w A rs) (hb : Below w.heap.size w w') : RowsAt w' A rs := by
  intro hl
  obtain ⟨b, o, e, hc⟩ := h hl
  refine ⟨b, o, e, fun i hi => ?_⟩
  obtain ⟨A', c, h1, h2⟩ := hc i hi
  exact ⟨A', c, (hb.cell (cell_lt h1)).trans h1, h2.below hb⟩

def fewRow (r : List V) : Bool := decide (r.length ≤ 20) && r.all fun v => decide (v.s.size ≤ 100)
def fewB (rs : List (List V)) : Bool := rs.all fewRow && decide (rs.length ≤ 40)


end

/-! ### Projects -/
section
open Go.RowKit

theorem rowsAt1 {w : World} {g : Nat} {t : TypeId} {fz : Nat × Nat} {A0 : Option Addr} {c0 : Nat} {a : List V} (h0 : RowAt w A0 a)
    (h : w.heap[g]? = some (.cells #[.slice A0 a.length c0] t fz)) : RowsAt w (some ⟨g, 0, none⟩) [a] := by
  intro _
  refine ⟨g, 0, rfl, fun i hi => ?_⟩
  match i, hi with
  | 0, _ => exact ⟨A0, c0, by rw [cell_of_row w g _ _ t fz h]; rfl, h0⟩

theorem few1 {a : List V} (h : fewB [a] = true) : a.length ≤ 20 ∧ StrOk a := by
  simp [fewB, fewRow] at h
  exact ⟨h.1, fun v hv => by have := h.2 v hv; omega⟩

theorem strOk_proj {r : List V} {cols : List Int} (h : StrOk r) (hp : projOk r.length cols = true) : StrOk (projV r cols) := by
  intro v hv
  obtain ⟨n, hn, rfl⟩ := List.mem_map.1 hv
  have := List.all_eq_true.1 hp n hn
  simp [colOk] at this
  have hq : n.toNat < r.length := by omega
  simp only [List.getD, List.getElem?_eq_getElem hq, Option.getD_some]
  exact h _ (List.getElem_mem hq)

end

/-! ### Valid -/
section
open Go.RowKit

theorem takeAll {α : Type} {p : α → Bool} {l : List α} {k : Nat} (h : (l.take k).all p = true) (hk : ¬ k < l.length) : l.all p = true := by
  rwa [List.take_of_length_le (by omega)] at h
theorem takeBad {α : Type} {p : α → Bool} {l : List α} {k : Nat} (h : k < l.length) (hp : p l[k] = false) : l.all p = false := by
  rw [List.all_eq_false]; exact ⟨_, List.getElem_mem h, by simp [hp]⟩
theorem takeMore {α : Type} {p : α → Bool} {l : List α} {k : Nat} (hk : k < l.length) (h : (l.take k).all p = true) (hp : p l[k] = true) : (l.take (k + 1)).all p = true := by
  rw [List.take_succ_eq_append_getElem hk, List.all_append, h]; simp [hp]

set_option maxRecDepth 100000 in
set_option maxHeartbeats 1000000 in
theorem row_valid (A : Option Addr) (c : Nat) (r : List V) (w : World) (hr : RowAt w A r) (hl : r.length ≤ 100000) {x : Bool} (hx : r.all V.valid = x) :
    Calls Tryz.prog 33 #[.slice A r.length c] w fun e w' => e = .returned (.bool x) ∧ Below w.heap.size w w' := by
  have HX := hid hx
  clear hx
  go_enter Tryz.func33, Tryz.ntmps33
  go_wp2
  go_loopw [6] (fun i wr => ∃ k : Nat, k ≤ r.length ∧ i = .int .i64 k ∧ Hid ((r.take k).all V.valid = true) ∧ Below w.heap.size w wr) (fun i _ => r.length - (intOf i).toNat)
  case atStart => exact ⟨0, by omega, rfl, hid rfl, Below.refl _ _⟩
  case round =>
    obtain ⟨k, hk, rfl, HK, hbel⟩ := hrel
    by_cases hlt : k < r.length
    · obtain ⟨b, o, rfl, hcell⟩ := hr (by omega)
      obtain ⟨c0, c1, c2⟩ := hcell k hlt
      rw [← hbel.cell (cell_lt c0)] at c0
      rw [← hbel.cell (cell_lt c1)] at c1
      rw [← hbel.cell (cell_lt c2)] at c2
      have H1 := hid (fun h => takeMore hlt HK.out h)
      have H2 := hid (fun h => takeBad (p := V.valid) hlt h)
      generalize r[k] = v at *
      clear hcell hr
      cases hv : v.valid
      · have hc := fun W => hid (value_valid v W hv)
        have hf : Hid (false = x) := hid ((H2.out hv).symm.trans HX.out)
        clear H1 H2 hv HX HK
        go_wp2_with (go_at_call 39; refine ((hc _).out).mono ?_; rintro e w1 ⟨rfl, hb1⟩)
        go_ret
        exact ⟨ret_b hf.out, hbel.trans (hb1.mono hbel.size)⟩
      · have hc := fun W => hid (value_valid v W hv)
        have hK := hid (H1.out hv)
        clear H1 H2 hv HX HK
        go_wp2_with (go_at_call 39; refine ((hc _).out).mono ?_; rintro e w1 ⟨rfl, hb1⟩)
        go_roundw
        case rel => exact ⟨k + 1, by omega, by go_num, hK, hbel.trans (hb1.mono hbel.size)⟩
        case measure => simp [intOf]; omega
    · have hf : Hid (true = x) := hid ((takeAll HK.out hlt).symm.trans HX.out)
      clear hr HK HX
      go_wp2
      go_ret
      exact ⟨ret_b hf.out, hbel⟩

/-- Does r begin with p? -/
def prefB (r p : List V) : Bool := decide (p.length ≤ r.length) && decide (rowCmp [] (r.take p.length) p = 0)

theorem RowAt.cut {w : World} {A : Option Addr} {r : List V} (h : RowAt w A r) (n : Nat) : RowAt w A (r.take n) := by
  intro hl
  have hl' : (r.take n).length = min n r.length := List.length_take
  obtain ⟨b, o, e, hc⟩ := h (by omega)
  refine ⟨b, o, e, fun i hi => ?_⟩
  have := hc i (by omega)
  simpa using this

end

/-! ### Open -/
section
open Go.ChangeShapes Go.WideShapes Go.ChangeAt Go.RowKit Go.Deep

section
variable {H : Type} {enc : TypeId × Value → H} {w : World} {base : Nat} {sp : Nat → Bool} {held : Bool}

/-- A slice of values, whatever its own type's name. -/
theorem open_rowc {t : TypeId} (ht : Tryz.prog.underlying t = some (.slice 67)) {fuel : Nat} {v : Value} {x : DataW H × List MemPlace} (hs : ∃ a len cap, v = .slice a len cap)
    (h : DataW.trod enc Tryz.prog w base sp held fuel t v.cells.toList = some x) : ∃ (A : Option Addr) (r : List V) (c : Nat), v = .slice A r.length c ∧ r.length ≤ 9223372036854775807 ∧ RowAt w A r ∧ (∀ u ∈ r, u.wf) ∧ r.length ≤ c := by
  obtain ⟨a, len, cap, rfl⟩ := hs
  rcases open_slice ht h with ⟨h0, _⟩ | ⟨a', len', cap', m, n, D, Pl, hcs, _, hle, hmx, hm, _, hel⟩
  · injection h0 with h0 _
    injection h0 with e1 e2 e3
    subst e1 e2 e3
    exact ⟨none, [], 0, rfl, by simp, RowAt.nil, by simp, by simp⟩
  · injection hcs with h0 _
    injection h0 with e1 e2 e3
    subst e1 e2 e3
    have hc3 : Tryz.prog.cellsOf 67 = 3 := by kernel_rfl
    rw [hc3] at hel
    have hml : len ≤ m := by rw [hm]; split <;> omega
    obtain ⟨f, hf⟩ := choose_lt (α := V) (p := fun i v => v.wf ∧ w.cell? (a'.add (i * 3)) = some (.int .i64 v.k) ∧ w.cell? (a'.add (i * 3 + 1)) = some (.int .i64 v.n) ∧ w.cell? (a'.add (i * 3 + 2)) = some (.string v.s)) (n := len) (fun i hi => by
      obtain ⟨cs', h1, h2⟩ := hel i (by omega)
      obtain ⟨u, hu, rfl⟩ := trod_V h2
      obtain ⟨_, _, hg⟩ := World.cells?_some h1
      have g0 := hg 0 (by omega)
      have g1 := hg 1 (by omega)
      have g2 := hg 2 (by omega)
      rw [Go.Deep.add_add] at g0 g1 g2
      exact ⟨u, hu, g0, g1, g2⟩)
    refine ⟨some a', (List.range len).map f, cap, by simp, ?_, ?_, ?_, by simpa using hle⟩
    · simp only [List.length_map, List.length_range]; unfold maxLen at hmx; omega
    · intro hl
      simp only [List.length_map, List.length_range] at hl
      obtain ⟨_, g0, _⟩ := hf 0 hl
      obtain ⟨hsp, _⟩ := addr_plain g0
      have hspot := hsp (by omega)
      refine ⟨a'.block, a'.off, by cases a'; simp at hspot; subst hspot; rfl, fun i hi => ?_⟩
      simp only [List.length_map, List.length_range] at hi
      obtain ⟨_, k0, k1, k2⟩ := hf i hi
      rw [(addr_plain k0).2, hspot] at k0
      rw [(addr_plain k1).2, hspot] at k1
      rw [(addr_plain k2).2, hspot] at k2
      simp only [ite_self] at k0 k1 k2
      simp only [List.getElem_map, List.getElem_range]
      exact ⟨k0, k1, k2⟩
    · intro u hu
      obtain ⟨i, hi, rfl⟩ := List.mem_map.1 hu
      exact (hf i (List.mem_range.1 hi)).1

theorem open_row {t : TypeId} (ht : Tryz.prog.underlying t = some (.slice 67)) {fuel : Nat} {v : Value} {x : DataW H × List MemPlace} (hs : ∃ a len cap, v = .slice a len cap)
    (h : DataW.trod enc Tryz.prog w base sp held fuel t v.cells.toList = some x) : ∃ (A : Option Addr) (r : List V) (c : Nat), v = .slice A r.length c ∧ r.length ≤ 9223372036854775807 ∧ RowAt w A r ∧ ∀ u ∈ r, u.wf :=
  let ⟨A, r, c, h1, h2, h3, h4, _⟩ := open_rowc ht hs h
  ⟨A, r, c, h1, h2, h3, h4⟩

theorem open_bools {t : TypeId} (ht : Tryz.prog.underlying t = some (.slice 4)) {fuel : Nat} {v : Value} {x : DataW H × List MemPlace} (hs : ∃ a len cap, v = .slice a len cap)
    (h : DataW.trod enc Tryz.prog w base sp held fuel t v.cells.toList = some x) : ∃ (A : Option Addr) (r : List Bool) (c : Nat), v = .slice A r.length c ∧ r.length ≤ 9223372036854775807 ∧ BoolsAt w A r := by
  obtain ⟨a, len, cap, rfl⟩ := hs
  rcases open_slice1 ht (by kernel_rfl) h with ⟨h0, _⟩ | ⟨a', len', cap', m, n, U, D, Pl, hcs, _, hle, hmx, hm, _, hel⟩
  · injection h0 with h0 _
    injection h0 with e1 e2 e3
    subst e1 e2 e3
    exact ⟨none, [], 0, rfl, by simp, BoolsAt.nil⟩
  · injection hcs with h0 _
    injection h0 with e1 e2 e3
    subst e1 e2 e3
    have hml : len ≤ m := by rw [hm]; split <;> omega
    obtain ⟨f, hf⟩ := choose_lt (α := Bool) (p := fun i v => w.cell? (a'.add i) = some (.bool v)) (n := len) (fun i hi => by
      obtain ⟨h1, h2⟩ := hel i (by omega)
      obtain ⟨b, e, _⟩ := DataW.trod_bool Tryz.underlying4 h2
      injection e with e
      exact ⟨b, by rw [h1, e]⟩)
    refine ⟨some a', (List.range len).map f, cap, by simp, ?_, ?_⟩
    · simp only [List.length_map, List.length_range]; unfold maxLen at hmx; omega
    · intro hl
      simp only [List.length_map, List.length_range] at hl
      have g0 := hf 0 hl
      obtain ⟨hsp, _⟩ := addr_plain g0
      have hspot := hsp (by omega)
      refine ⟨a'.block, a'.off, by cases a'; simp at hspot; subst hspot; rfl, fun i hi => ?_⟩
      simp only [List.length_map, List.length_range] at hi
      have k0 := hf i hi
      rw [(addr_plain k0).2, hspot] at k0
      simp only [ite_self] at k0
      simp only [List.getElem_map, List.getElem_range]
      exact k0

theorem open_ints' {t : TypeId} (ht : Tryz.prog.underlying t = some (.slice 3)) {fuel : Nat} {v : Value} {x : DataW H × List MemPlace} (hs : ∃ a len cap, v = .slice a len cap)
    (h : DataW.trod enc Tryz.prog w base sp held fuel t v.cells.toList = some x) : ∃ (A : Option Addr) (r : List Int) (c : Nat), v = .slice A r.length c ∧ r.length ≤ 9223372036854775807 ∧ IntsAt w A r := by
  obtain ⟨a, len, cap, rfl⟩ := hs
  rcases open_slice1 ht (by kernel_rfl) h with ⟨h0, _⟩ | ⟨a', len', cap', m, n, U, D, Pl, hcs, _, hle, hmx, hm, _, hel⟩
  · injection h0 with h0 _
    injection h0 with e1 e2 e3
    subst e1 e2 e3
    exact ⟨none, [], 0, rfl, by simp, fun h => absurd h (by simp)⟩
  · injection hcs with h0 _
    injection h0 with e1 e2 e3
    subst e1 e2 e3
    have hml : len ≤ m := by rw [hm]; split <;> omega
    obtain ⟨f, hf⟩ := choose_lt (α := Int) (p := fun i v => w.cell? (a'.add i) = some (.int .i64 v)) (n := len) (fun i hi => by
      obtain ⟨h1, h2⟩ := hel i (by omega)
      obtain ⟨b, e, _⟩ := DataW.trod_int Tryz.underlying3 h2
      injection e with e
      exact ⟨b, by rw [h1, e]⟩)
    refine ⟨some a', (List.range len).map f, cap, by simp, ?_, ?_⟩
    · simp only [List.length_map, List.length_range]; unfold maxLen at hmx; omega
    · intro hl
      simp only [List.length_map, List.length_range] at hl
      have g0 := hf 0 hl
      obtain ⟨hsp, _⟩ := addr_plain g0
      have hspot := hsp (by omega)
      refine ⟨a'.block, a'.off, by cases a'; simp at hspot; subst hspot; rfl, fun i hi => ?_⟩
      simp only [List.length_map, List.length_range] at hi
      have k0 := hf i hi
      rw [(addr_plain k0).2, hspot] at k0
      simp only [ite_self] at k0
      simp only [List.getElem_map, List.getElem_range]
      exact k0

end
end

/-! ### RTexts -/
section
open Go.RowKit

theorem valid_ok {r : List V} (hw : ∀ v ∈ r, v.wf) (hv : r.all V.valid = true) : ∀ v ∈ r, v.valid = true ∧ I64 v.n := fun v h => ⟨List.all_eq_true.1 hv v h, (hw v h).n⟩
theorem text_ok {r : List V} (h : ∀ v ∈ r, v.valid = true ∧ I64 v.n) : (∀ v ∈ r, v.ok) ∧ (∀ v ∈ r, v.valid = true) ∧ StrOk r ∧ (rowTextL r).length ≤ 102 * r.length + 2 := by
  refine ⟨fun v hv => (ok_of (h v hv).1 (h v hv).2).1, fun v hv => (h v hv).1, fun v hv => by have := (ok_of (h v hv).1 (h v hv).2).2.1; omega, ?_⟩
  have := rowBody_len r fun v hv => (ok_of (h v hv).1 (h v hv).2).2.2
  unfold rowTextL
  simp only [List.length_cons, List.length_append, List.length_nil]; omega
theorem arr_backS (s : ByteArray) : (⟨s.data.toList.toArray⟩ : ByteArray) = s := ByteArray.ext (by simp)
theorem row_textB (A : Option Addr) (c : Nat) (r : List V) (w : World) (hr : RowAt w A r) (hl : r.length ≤ 100000) (hok : ∀ v ∈ r, v.ok) (ht : Tab w) {T : ByteArray} (hT : T = ⟨(rowTextL r).toArray⟩) :
    Calls Tryz.prog 16 #[.slice A r.length c] w fun e w' => e = .returned (.string T) ∧ Below w.heap.size w w' := by
  subst hT
  exact row_text A c r w hr hl hok ht
end

/-! ### Sk12 -/
section
open Go.RowKit

theorem join_flat (x : Str) : ∀ l : List Str, Lib.join (x :: l) [32] = x ++ flat32 l
  | [] => by simp [Lib.join, flat32]
  | y :: l => by
    have h := join_flat y l
    rw [Lib.join_cons] at h ⊢
    have e : flat32 (y :: l) = (32 :: y) ++ flat32 l := rfl
    have e2 := List.append_cancel_left h
    rw [e, ← e2]
    simp [Lib.joinTail]
theorem mem_flat {p : Str} : ∀ {l : List Str}, p ∈ l → p.length + 1 ≤ (flat32 l).length
  | y :: l, h => by
    have e : flat32 (y :: l) = (32 :: y) ++ flat32 l := rfl
    rw [e, List.length_append, List.length_cons]
    rcases List.mem_cons.1 h with rfl | h
    · omega
    · have := mem_flat h; omega
theorem len_flat : ∀ l : List Str, l.length ≤ (flat32 l).length
  | [] => by simp
  | y :: l => by
    have e : flat32 (y :: l) = (32 :: y) ++ flat32 l := rfl
    have := len_flat l
    rw [e, List.length_append, List.length_cons, List.length_cons]; omega
theorem op_name {op : Nat} (h : op < 20) : opName (op : Int) = ⟨(nam6.getD op []).toArray⟩ := by
  have : ∀ i : Fin 20, opName (i.val : Int) = ⟨(nam6.getD i.val []).toArray⟩ := by decide
  exact this ⟨op, h⟩
/-- The shapes that there are. -/
theorem shp_ways {op : Nat} (h : op < 20) : ((shpOf op).name, (shpOf op).kinds, (shpOf op).row, (shpOf op).query) = (true, true, false, false) ∨ ((shpOf op).name, (shpOf op).kinds, (shpOf op).row, (shpOf op).query) = (true, false, true, false) ∨ ((shpOf op).name, (shpOf op).kinds, (shpOf op).row, (shpOf op).query) = (false, false, false, false) ∨
    ((shpOf op).name, (shpOf op).kinds, (shpOf op).row, (shpOf op).query) = (false, false, false, true) ∨ ((shpOf op).name, (shpOf op).kinds, (shpOf op).row, (shpOf op).query) = (false, false, true, false) ∨ ((shpOf op).name, (shpOf op).kinds, (shpOf op).row, (shpOf op).query) = (false, false, true, true) := by
  have : ∀ i : Fin 20, ((shpOf i.val).name, (shpOf i.val).kinds, (shpOf i.val).row, (shpOf i.val).query) = (true, true, false, false) ∨ ((shpOf i.val).name, (shpOf i.val).kinds, (shpOf i.val).row, (shpOf i.val).query) = (true, false, true, false) ∨ ((shpOf i.val).name, (shpOf i.val).kinds, (shpOf i.val).row, (shpOf i.val).query) = (false, false, false, false) ∨
    ((shpOf i.val).name, (shpOf i.val).kinds, (shpOf i.val).row, (shpOf i.val).query) = (false, false, false, true) ∨ ((shpOf i.val).name, (shpOf i.val).kinds, (shpOf i.val).row, (shpOf i.val).query) = (false, false, true, false) ∨ ((shpOf i.val).name, (shpOf i.val).kinds, (shpOf i.val).row, (shpOf i.val).query) = (false, false, true, true) := by decide
  exact this ⟨op, h⟩
theorem row_len {r : List V} (h : ∀ v ∈ r, v.valid = true ∧ I64 v.n) : r.length ≤ (rowTextL r).length := (rowQ_inv (rowQ_text h)).2.2
/-- A command's memory. -/
structure CmAt (w : World) (T : Option Addr) (ct : Nat) (R : Option Addr) (cr : Nat) (c : Cm) : Prop where
  ints : IntsAt w T c.nums
  ct : c.nums.length ≤ ct
  row : RowAt w R c.row
  cr : c.row.length ≤ cr
theorem CmAt.below {w w' : World} {T R : Option Addr} {ct cr : Nat} {c : Cm} (h : CmAt w T ct R cr c) (hb : Below w.heap.size w w') : CmAt w' T ct R cr c := ⟨h.ints.below hb, h.ct, h.row.below hb, h.cr⟩
theorem infoStg : (Tryz.prog.info? 9).map (fun i => (i.zero, i.size, i.bytes)) = some (some (.string ⟨#[]⟩), 1, 16) := by kernel_rfl
def stgV (s : Str) : Value := .string ⟨s.toArray⟩
/-- The words under way. -/
structure WdI (n : Int) (c : Cm) (U V : Value) (f : Shp) (A : Option Addr) (cf : Nat) (gs : Nat) (w W : World) (l : List Str) (u : Value) : Prop where
  b1 : W.heap[w.heap.size]? = some (.cells (cmA n c U V) 35)
  b3 : W.heap[gs]? = some (.cells #[.bool f.name, .bool f.kinds, .slice A f.nums.length cf, .bool f.row, .bool f.query] 76)
  lt : w.heap.size < gs
  own : W.ownsRow (gs + 1) 9 1 u l.length (l.map stgV)
  bel : Below w.heap.size w W
section
variable {n : Int} {c : Cm} {U V : Value} {f : Shp} {A : Option Addr} {cf gs : Nat} {w W W' : World} {l : List Str} {u : Value}
theorem WdI.on (h : WdI n c U V f A cf gs w W l u) (hb : Below W.heap.size W W') : WdI n c U V f A cf gs w W' l u :=
  ⟨(hb.block _ (lt_of_block h.b1)).trans h.b1, (hb.block _ (lt_of_block h.b3)).trans h.b3, h.lt, own_belowS h.own hb, h.bel.trans (hb.mono h.bel.size)⟩
theorem WdI.push {u2 : Value} {s : Str} (h : WdI n c U V f A cf gs w W l u) (hg : W.grownBy W' u.ownBlock) (ho : W'.ownsRow (gs + 1) 9 1 u2 (l.length + 1) (l.map stgV ++ [stgV s])) : WdI n c U V f A cf gs w W' (l ++ [s]) u2 := by
  have hx : ∀ b, b < gs + 1 → u.ownBlock ≠ some b := fun b hb e => by have := (h.own.lt b e).1; omega
  have := h.lt
  have := lt_of_block h.b3
  exact ⟨box_grown h.b1 hg (hx _ (by omega)), box_grown h.b3 hg (hx _ (by omega)), h.lt, by rw [List.length_append, List.map_append]; exact ho, h.bel.trans ((grown_below h.own hg (by omega)).mono (by omega))⟩
theorem WdI.cells (h : WdI n c U V f A cf gs w W l u) : W.cell? ⟨w.heap.size, 1, none⟩ = some (.int .i64 c.op) ∧ W.cell? ⟨w.heap.size, 2, none⟩ = some (.string ⟨c.name.toArray⟩) ∧ W.cell? ⟨w.heap.size, 3, none⟩ = some U ∧ W.cell? ⟨w.heap.size, 4, none⟩ = some V ∧ W.cell? ⟨w.heap.size, 5, none⟩ = some (.string ⟨c.query.toArray⟩) ∧
    W.cell? ⟨gs, 0, none⟩ = some (.bool f.name) ∧ W.cell? ⟨gs, 1, none⟩ = some (.bool f.kinds) ∧ W.cell? ⟨gs, 2, none⟩ = some (.slice A f.nums.length cf) ∧ W.cell? ⟨gs, 3, none⟩ = some (.bool f.row) ∧ W.cell? ⟨gs, 4, none⟩ = some (.bool f.query) ∧ gs + 1 ≤ W.heap.size :=
  ⟨box_cell h.b1 1, box_cell h.b1 2, box_cell h.b1 3, box_cell h.b1 4, box_cell h.b1 5, box_cell h.b3 0, box_cell h.b3 1, box_cell h.b3 2, box_cell h.b3 3, box_cell h.b3 4, lt_of_block h.b3⟩
theorem wd_append {ops : Array Oper} {rest : List Oper} {o : Oper} {a : Act} {Q : Exit → Act → World → Prop} {s : Str} {v : Value} (hv : stgV s = v)
    (HI : Hid (WdI n c U V f A cf gs w W l u)) (hl : l.length ≤ 200000) (hgd : o.guard = none) {x y : Operand} (ho : o.op = .call { callee := .builtin .append, args := #[x, y], argTypes := #[27, 27] }) (hs : a.eval x = u) {g m : Nat} (hx : a.eval y = .slice (some ⟨g, 0, none⟩) 1 m) (hg : g = W.heap.size)
    (h : ∀ u9 W9, Hid (WdI n c U V f A cf gs w W9 (l ++ [s]) u9) → wpList Tryz.prog ops Q rest (a.put o.dst u9) W9) : wpList Tryz.prog ops Q (o :: rest) a (W.alloc (.cells #[v] 9)) := by
  subst hv
  obtain ⟨i0, hi0, hz0, hz1, hz2⟩ := info_parts infoStg
  have h1 := HI.out.cells.2.2.2.2.2.2.2.2.2.2
  refine wpList_append_new2 (news := [stgV s]) Tryz.underlying27 hi0 hz0 hz1 hz2 rfl (by decide) (by decide) hgd ho hs HI.out.own hx hg rfl rfl (by omega) h1 ?_
  intro v2 w3 hown2 hg2
  exact h v2 w3 (hid (HI.out.push hg2 hown2))
end
end
end Go.Proofs.YtjhnopnppimnhaaGreatDoor
