/-
  PARTS of a claim, merged by segs.py: PgO, OpenB, BuiS.
-/
import Derived.Test.YtnbacdmlaedppaaGreatDoorQ30
import Derived.Test.YtnbacdmlaedppaaGreatDoorQ46
import Derived.Test.YtnbacdmlaedppaaGreatDoorQ05
import Derived.Test.YtnbacdmlaedppaaGreatDoorQ06
import Derived.Test.YtnbacdmlaedppaaGreatDoorQ07
import Derived.Test.YtnbacdmlaedppaaGreatDoorQ11
import Derived.Test.YtnbacdmlaedppaaGreatDoorShelf
import Derived.Shelf.Strings.Builder1
namespace Go.Proofs.YtnbacdmlaedppaaGreatDoor

/-! ### PgO -/
section

def gapM (m : Nat) : List UInt8 := if m = 0 then [32] else if m = 1 then [10] else if m = 2 then [32, 9, 32] else [13, 10]
/-- The gaps after n tokens. -/
def gapsM (gl : List UInt8) (n : Nat) : List (List UInt8) := (List.range n).map fun k => gapM ((gl.getD (k % gl.length) 0).toNat % 4)
theorem gapM_ok (m : Nat) : gapOk (gapM m) ∧ (gapM m).length ≤ 3 := by
  unfold gapM gapOk
  split
  · decide
  · split
    · decide
    · split <;> decide
theorem gapsM_ok (gl : List UInt8) (n : Nat) : ∀ g ∈ gapsM gl n, gapOk g ∧ g.length ≤ 3 := by
  intro g hg
  obtain ⟨x, _, rfl⟩ := List.mem_map.1 hg
  exact gapM_ok _
theorem gapsM_at (gl : List UInt8) {n k : Nat} (h : k < n) (hg : 0 < gl.length) : (gapsM gl n).getD k [32] = gapM ((gl[k % gl.length]'(Nat.mod_lt _ hg)).toNat % 4) := by
  have h1 : k % gl.length < gl.length := Nat.mod_lt _ hg
  simp [gapsM, List.getD, h, h1]
theorem scanL_blanks {l : List UInt8} {ts : List Tok} {q : Int} (h : scanL l = (ts, q, 0)) (hl : l.length ≤ 1000) (gl : List UInt8) :
    ∃ js, scanL (joinT ts (gapsM gl ts.length)) = (js, 0, 0) ∧ js.map Tok.bare = ts.map Tok.bare ∧ (joinT ts (gapsM gl ts.length)).length ≤ 65536 := by
  have hs := (scanL_ok h).1
  obtain ⟨us, h1, h2⟩ := hs.back (gapsM gl ts.length) 0 fun g hg => (gapsM_ok gl _ g hg).1
  have hj := joinT_len ts (gapsM gl ts.length) fun g hg => (gapsM_ok gl _ g hg).2
  have hsum := hs.sum
  have hhd := hs.head
  have hle : (joinT ts (gapsM gl ts.length)).length ≤ 65536 := by omega
  exact ⟨us, scanL_sc hle h1, h2, hle⟩
/-- Parse on tokens that stand elsewhere. -/
theorem parseP_bare {l m : List Tok} (h : m.map Tok.bare = l.map Tok.bare) (a b : Int) : (parseP (m, a, 0)).1 = (parseP (l, b, 0)).1 ∧ (parseP (m, a, 0)).2.2 = (parseP (l, b, 0)).2.2 := by
  obtain ⟨h1, h2⟩ := gramQ_bare h
  unfold parseP
  rw [if_pos rfl, if_pos rfl]
  simp only [h1, h2]
  by_cases k1 : (gramQ l).2.2 = 0
  · rw [if_pos k1, if_pos k1]
    by_cases k2 : checkQ (gramQ l).1 = 0
    · rw [if_pos k2]; exact ⟨rfl, rfl⟩
    · rw [if_neg k2]; exact ⟨rfl, rfl⟩
  · rw [if_neg k1, if_neg k1]; exact ⟨h1, h2⟩
/-- The law in plain words. -/
theorem blanks_plain {l : List UInt8} {ts : List Tok} {q : Int} (h : scanL l = (ts, q, 0)) (hl : l.length ≤ 1000) (gl : List UInt8) :
    ∃ js, scanL (joinT ts (gapsM gl ts.length)) = (js, 0, 0) ∧ (parseP (js, 0, 0)).1 = (parseP (scanL l)).1 ∧ (parseP (js, 0, 0)).2.2 = (parseP (scanL l)).2.2 ∧ (joinT ts (gapsM gl ts.length)).length ≤ 65536 := by
  obtain ⟨js, h1, h2, h3⟩ := scanL_blanks h hl gl
  rw [h]
  obtain ⟨h4, h5⟩ := parseP_bare h2 0 q
  exact ⟨js, h1, h4, h5, h3⟩
end

/-! ### OpenB -/
section
open Go.ChangeShapes Go.WideShapes Go.ChangeAt Go.RowKit Go.Deep

/-- A slice of bytes. -/
def BytAt (w : World) (A : Option Addr) (l : List UInt8) : Prop :=
  0 < l.length → ∃ b o, A = some ⟨b, o, none⟩ ∧ ∀ i (h : i < l.length), w.cell? ⟨b, o + i, none⟩ = some (.int .u8 l[i].toNat)
theorem BytAt.below {w w' : World} {A : Option Addr} {l : List UInt8} (h : BytAt w A l) (hb : Below w.heap.size w w') : BytAt w' A l := fun hp => by
  obtain ⟨b, o, e, hc⟩ := h hp
  exact ⟨b, o, e, fun i hi => cell_keep hb (hc i hi)⟩

section
variable {H : Type} {enc : TypeId × Value → H} {w : World} {base : Nat} {sp : Nat → Bool} {held : Bool}
theorem open_u8s {t : TypeId} (ht : Tryz.prog.underlying t = some (.slice 5)) {fuel : Nat} {v : Value} {x : DataW H × List MemPlace} (hs : ∃ a len cap, v = .slice a len cap)
    (h : DataW.trod enc Tryz.prog w base sp held fuel t v.cells.toList = some x) : ∃ (A : Option Addr) (r : List UInt8) (c : Nat), v = .slice A r.length c ∧ r.length ≤ 9223372036854775807 ∧ BytAt w A r := by
  obtain ⟨a, len, cap, rfl⟩ := hs
  rcases open_slice1 ht (by kernel_rfl) h with ⟨h0, _⟩ | ⟨a', len', cap', m, n, U, D, Pl, hcs, _, hle, hmx, hm, _, hel⟩
  · injection h0 with h0 _
    injection h0 with e1 e2 e3
    subst e1 e2 e3
    exact ⟨none, [], 0, rfl, by simp, fun h => absurd h (by simp)⟩
  · injection hcs with h0 _
    injection h0 with e1 e2 e3
    subst e1 e2 e3
    have hml : len ≤ m := by rw [hm]; split <;> omega
    obtain ⟨f, hf⟩ := choose_lt (α := UInt8) (p := fun i v => w.cell? (a'.add i) = some (.int .u8 v.toNat)) (n := len) (fun i hi => by
      obtain ⟨h1, h2⟩ := hel i (by omega)
      obtain ⟨b, e, _, hw⟩ := DataW.trod_int Tryz.underlying5 h2
      injection e with e
      simp [Lit.wf, IntKind.min, IntKind.max, IntKind.signed, IntKind.bits] at hw
      refine ⟨UInt8.ofNat b.toNat, ?_⟩
      rw [h1, e, UInt8.toNat_ofNat_of_lt' (by show b.toNat < 256; omega), Int.toNat_of_nonneg (by omega)])
    refine ⟨some a', (List.range len).map f, cap, by simp, ?_, ?_⟩
    · simp only [List.length_map, List.length_range]; unfold maxLen at hmx; omega
    · intro hl
      simp only [List.length_map, List.length_range] at hl
      have g0 := hf 0 hl
      obtain ⟨hsp, _⟩ := addr_plain g0
      have hspot := hsp (by omega)
      refine ⟨a'.block, a'.off, by cases a'; simp at hspot; subst hspot; rfl, fun i hi => ?_⟩
      simp only [List.length_map, List.length_range] at hi
      have k0 := hf i hi
      rw [(addr_plain k0).2, hspot] at k0
      simp only [ite_self] at k0
      simp only [List.getElem_map, List.getElem_range]
      exact k0
end
end

/-! ### BuiS -/
section
open Go.RowKit

theorem bld_below {T e : TypeId} {B b : Nat} {p : Value} {bs : List Value} {w w' : World} (h : Lib.BuilderAt T e B b p bs w) (hb : Below w.heap.size w w') : Lib.BuilderAt T e B b p bs w' := by
  have hlt := h.lt
  obtain ⟨hB, v, hbk, hown, hne⟩ := h
  exact ⟨hB, v, (hb.block b hlt).trans hbk, own_belowS hown hb, hne⟩
theorem bldAdd {T e : TypeId} {B b : Nat} {p : Value} {l x : List UInt8} {w : World} {y : List Value} (hy : Lib.byteCells x = y) (h : Lib.BuilderAt T e B b p (Lib.byteCells l ++ y) w) : Lib.BuilderAt T e B b p (Lib.byteCells (l ++ x)) w := by
  subst hy; rw [Lib.byteCells_append]; exact h

def bldRen : Go.Shelf.Ren := ⟨fun | 240 => 39 | 276 => 74 | 166 => 18 | n => n, fun | 0 => 0 | 3 => 3 | 4 => 4 | 5 => 5 | 9 => 9 | 20 => 20 | 37 => 48 | 70 => 52 | 72 => 54 | 75 => 60 | 80 => 63 | 164 => 131 | n => n, fun | n => n⟩
theorem bldLays240 : Go.Proofs.Lays.n240 Tryz.prog bldRen := {
  mixed := by kernel_rfl
  f240 := Tryz.func39.trans (congrArg some (by kernel_rfl))
  f276 := Tryz.func74.trans (congrArg some (by kernel_rfl))
  t0 := Tryz.underlying0
  a0 := Tryz.isAgg0
  z0 := Tryz.sizeOf0
  v0 := Tryz.zeroValue0
  t4 := Tryz.underlying4
  a4 := Tryz.isAgg4
  z4 := Tryz.sizeOf4
  v4 := Tryz.zeroValue4
  t9 := Tryz.underlying9
  a9 := Tryz.isAgg9
  z9 := Tryz.sizeOf9
  v9 := Tryz.zeroValue9
  t20 := Tryz.underlying20
  a20 := Tryz.isAgg20
  z20 := Tryz.sizeOf20
  v20 := Tryz.zeroValue20
  t70 := Tryz.underlying52
  a70 := Tryz.isAgg52
  z70 := Tryz.sizeOf52
  v70 := Tryz.zeroValue52
  t72 := Tryz.underlying54
  a72 := Tryz.isAgg54
  z72 := Tryz.sizeOf54
  v72 := Tryz.zeroValue54
  t164 := Tryz.underlying131
  a164 := Tryz.isAgg131
  z164 := Tryz.sizeOf131
  v164 := Tryz.zeroValue131 }
theorem bldLays166 : Go.Proofs.Lays.n166 Tryz.prog bldRen := {
  mixed := by kernel_rfl
  f166 := Tryz.func18.trans (congrArg some (by kernel_rfl))
  f240 := Tryz.func39.trans (congrArg some (by kernel_rfl))
  f276 := Tryz.func74.trans (congrArg some (by kernel_rfl))
  t0 := Tryz.underlying0
  a0 := Tryz.isAgg0
  z0 := Tryz.sizeOf0
  v0 := Tryz.zeroValue0
  t3 := Tryz.underlying3
  a3 := Tryz.isAgg3
  z3 := Tryz.sizeOf3
  v3 := Tryz.zeroValue3
  t4 := Tryz.underlying4
  a4 := Tryz.isAgg4
  z4 := Tryz.sizeOf4
  v4 := Tryz.zeroValue4
  t9 := Tryz.underlying9
  a9 := Tryz.isAgg9
  z9 := Tryz.sizeOf9
  v9 := Tryz.zeroValue9
  t20 := Tryz.underlying20
  a20 := Tryz.isAgg20
  z20 := Tryz.sizeOf20
  v20 := Tryz.zeroValue20
  t37 := Tryz.underlying48
  a37 := Tryz.isAgg48
  z37 := Tryz.sizeOf48
  v37 := Tryz.zeroValue48
  t70 := Tryz.underlying52
  a70 := Tryz.isAgg52
  z70 := Tryz.sizeOf52
  v70 := Tryz.zeroValue52
  t72 := Tryz.underlying54
  a72 := Tryz.isAgg54
  z72 := Tryz.sizeOf54
  v72 := Tryz.zeroValue54
  t75 := Tryz.underlying60
  a75 := Tryz.isAgg60
  z75 := Tryz.sizeOf60
  v75 := Tryz.zeroValue60
  t164 := Tryz.underlying131
  a164 := Tryz.isAgg131
  z164 := Tryz.sizeOf131
  v164 := Tryz.zeroValue131 }
theorem bldExtra : Builder.Extra Tryz.prog bldRen := {
  sizeBuilder := by kernel_rfl
  liesBuilder := by kernel_rfl
  t5 := Tryz.underlying5
  a5 := Tryz.isAgg5
  z5 := Tryz.sizeOf5
  v5 := Tryz.zeroValue5
  infoByte := by kernel_rfl
  cellsByte := by kernel_rfl
  sizeByte := by kernel_rfl
  neB5 := by decide }


theorem writeString (B b : Nat) (bs : List Value) (s : ByteArray) (w : World) (h : Lib.IsBuilder 54 5 B b bs w) (hlen : bs.length + s.size ≤ 140737488355328) (hBw : B ≤ w.heap.size) :
    Calls Tryz.prog 18 #[.pointer (some ⟨b, 0, none⟩), .string s] w fun e w' => e = .returned (.tuple #[.int .i64 s.size, .nilIface]) ∧ (Lib.BuilderAt 54 5 B b (.pointer (some ⟨b, 0, none⟩)) (bs ++ Lib.strCells s) w' ∧ Below B w w') :=
  Any.Builder_WriteString bldLays166 bldExtra B b bs s w h hlen hBw

end
end Go.Proofs.YtnbacdmlaedppaaGreatDoor
