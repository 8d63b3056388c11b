/-
  ARGUMENTS OPENED: values, rows, slices of rows, flags, strings.
-/
import Derived.Test.YtaghaigckgckpaaDoorOpenV
import Derived.Test.YtaghaigckgckpaaDoorFew
import Derived.Test.YtaghaigckgckpaaDoorProg
namespace Go.Proofs.YtaghaigckgckpaaDoor
open Go.ChangeShapes Go.WideShapes Go.ChangeAt Go.RowKit Go.Deep

section
variable {H : Type} {enc : TypeId × Value → H} {w : World} {base : Nat} {sp : Nat → Bool} {held : Bool}

/-- A slice of values, whatever its own type's name. -/
theorem open_rowc {t : TypeId} (ht : Tryd.prog.underlying t = some (.slice 43)) {fuel : Nat} {v : Value} {x : DataW H × List MemPlace} (hs : ∃ a len cap, v = .slice a len cap)
    (h : DataW.trod enc Tryd.prog w base sp held fuel t v.cells.toList = some x) : ∃ (A : Option Addr) (r : List V) (c : Nat), v = .slice A r.length c ∧ r.length ≤ 9223372036854775807 ∧ RowAt w A r ∧ (∀ u ∈ r, u.wf) ∧ r.length ≤ c := by
  obtain ⟨a, len, cap, rfl⟩ := hs
  rcases open_slice ht h with ⟨h0, _⟩ | ⟨a', len', cap', m, n, D, Pl, hcs, _, hle, hmx, hm, _, hel⟩
  · injection h0 with h0 _
    injection h0 with e1 e2 e3
    subst e1 e2 e3
    exact ⟨none, [], 0, rfl, by simp, RowAt.nil, by simp, by simp⟩
  · injection hcs with h0 _
    injection h0 with e1 e2 e3
    subst e1 e2 e3
    have hc3 : Tryd.prog.cellsOf 43 = 3 := by kernel_rfl
    rw [hc3] at hel
    have hml : len ≤ m := by rw [hm]; split <;> omega
    obtain ⟨f, hf⟩ := choose_lt (α := V) (p := fun i v => v.wf ∧ w.cell? (a'.add (i * 3)) = some (.int .i64 v.k) ∧ w.cell? (a'.add (i * 3 + 1)) = some (.int .i64 v.n) ∧ w.cell? (a'.add (i * 3 + 2)) = some (.string v.s)) (n := len) (fun i hi => by
      obtain ⟨cs', h1, h2⟩ := hel i (by omega)
      obtain ⟨u, hu, rfl⟩ := trod_V h2
      obtain ⟨_, _, hg⟩ := World.cells?_some h1
      have g0 := hg 0 (by omega)
      have g1 := hg 1 (by omega)
      have g2 := hg 2 (by omega)
      rw [Go.Deep.add_add] at g0 g1 g2
      exact ⟨u, hu, g0, g1, g2⟩)
    refine ⟨some a', (List.range len).map f, cap, by simp, ?_, ?_, ?_, by simpa using hle⟩
    · simp only [List.length_map, List.length_range]; unfold maxLen at hmx; omega
    · intro hl
      simp only [List.length_map, List.length_range] at hl
      obtain ⟨_, g0, _⟩ := hf 0 hl
      obtain ⟨hsp, _⟩ := addr_plain g0
      have hspot := hsp (by omega)
      refine ⟨a'.block, a'.off, by cases a'; simp at hspot; subst hspot; rfl, fun i hi => ?_⟩
      simp only [List.length_map, List.length_range] at hi
      obtain ⟨_, k0, k1, k2⟩ := hf i hi
      rw [(addr_plain k0).2, hspot] at k0
      rw [(addr_plain k1).2, hspot] at k1
      rw [(addr_plain k2).2, hspot] at k2
      simp only [ite_self] at k0 k1 k2
      simp only [List.getElem_map, List.getElem_range]
      exact ⟨k0, k1, k2⟩
    · intro u hu
      obtain ⟨i, hi, rfl⟩ := List.mem_map.1 hu
      exact (hf i (List.mem_range.1 hi)).1

theorem open_row {t : TypeId} (ht : Tryd.prog.underlying t = some (.slice 43)) {fuel : Nat} {v : Value} {x : DataW H × List MemPlace} (hs : ∃ a len cap, v = .slice a len cap)
    (h : DataW.trod enc Tryd.prog w base sp held fuel t v.cells.toList = some x) : ∃ (A : Option Addr) (r : List V) (c : Nat), v = .slice A r.length c ∧ r.length ≤ 9223372036854775807 ∧ RowAt w A r ∧ ∀ u ∈ r, u.wf :=
  let ⟨A, r, c, h1, h2, h3, h4, _⟩ := open_rowc ht hs h
  ⟨A, r, c, h1, h2, h3, h4⟩

theorem open_bools {t : TypeId} (ht : Tryd.prog.underlying t = some (.slice 4)) {fuel : Nat} {v : Value} {x : DataW H × List MemPlace} (hs : ∃ a len cap, v = .slice a len cap)
    (h : DataW.trod enc Tryd.prog w base sp held fuel t v.cells.toList = some x) : ∃ (A : Option Addr) (r : List Bool) (c : Nat), v = .slice A r.length c ∧ r.length ≤ 9223372036854775807 ∧ BoolsAt w A r := by
  obtain ⟨a, len, cap, rfl⟩ := hs
  rcases open_slice1 ht (by kernel_rfl) h with ⟨h0, _⟩ | ⟨a', len', cap', m, n, U, D, Pl, hcs, _, hle, hmx, hm, _, hel⟩
  · injection h0 with h0 _
    injection h0 with e1 e2 e3
    subst e1 e2 e3
    exact ⟨none, [], 0, rfl, by simp, BoolsAt.nil⟩
  · injection hcs with h0 _
    injection h0 with e1 e2 e3
    subst e1 e2 e3
    have hml : len ≤ m := by rw [hm]; split <;> omega
    obtain ⟨f, hf⟩ := choose_lt (α := Bool) (p := fun i v => w.cell? (a'.add i) = some (.bool v)) (n := len) (fun i hi => by
      obtain ⟨h1, h2⟩ := hel i (by omega)
      obtain ⟨b, e, _⟩ := DataW.trod_bool Tryd.underlying4 h2
      injection e with e
      exact ⟨b, by rw [h1, e]⟩)
    refine ⟨some a', (List.range len).map f, cap, by simp, ?_, ?_⟩
    · simp only [List.length_map, List.length_range]; unfold maxLen at hmx; omega
    · intro hl
      simp only [List.length_map, List.length_range] at hl
      have g0 := hf 0 hl
      obtain ⟨hsp, _⟩ := addr_plain g0
      have hspot := hsp (by omega)
      refine ⟨a'.block, a'.off, by cases a'; simp at hspot; subst hspot; rfl, fun i hi => ?_⟩
      simp only [List.length_map, List.length_range] at hi
      have k0 := hf i hi
      rw [(addr_plain k0).2, hspot] at k0
      simp only [ite_self] at k0
      simp only [List.getElem_map, List.getElem_range]
      exact k0

theorem open_ints' {t : TypeId} (ht : Tryd.prog.underlying t = some (.slice 3)) {fuel : Nat} {v : Value} {x : DataW H × List MemPlace} (hs : ∃ a len cap, v = .slice a len cap)
    (h : DataW.trod enc Tryd.prog w base sp held fuel t v.cells.toList = some x) : ∃ (A : Option Addr) (r : List Int) (c : Nat), v = .slice A r.length c ∧ r.length ≤ 9223372036854775807 ∧ IntsAt w A r := by
  obtain ⟨a, len, cap, rfl⟩ := hs
  rcases open_slice1 ht (by kernel_rfl) h with ⟨h0, _⟩ | ⟨a', len', cap', m, n, U, D, Pl, hcs, _, hle, hmx, hm, _, hel⟩
  · injection h0 with h0 _
    injection h0 with e1 e2 e3
    subst e1 e2 e3
    exact ⟨none, [], 0, rfl, by simp, fun h => absurd h (by simp)⟩
  · injection hcs with h0 _
    injection h0 with e1 e2 e3
    subst e1 e2 e3
    have hml : len ≤ m := by rw [hm]; split <;> omega
    obtain ⟨f, hf⟩ := choose_lt (α := Int) (p := fun i v => w.cell? (a'.add i) = some (.int .i64 v)) (n := len) (fun i hi => by
      obtain ⟨h1, h2⟩ := hel i (by omega)
      obtain ⟨b, e, _⟩ := DataW.trod_int Tryd.underlying3 h2
      injection e with e
      exact ⟨b, by rw [h1, e]⟩)
    refine ⟨some a', (List.range len).map f, cap, by simp, ?_, ?_⟩
    · simp only [List.length_map, List.length_range]; unfold maxLen at hmx; omega
    · intro hl
      simp only [List.length_map, List.length_range] at hl
      have g0 := hf 0 hl
      obtain ⟨hsp, _⟩ := addr_plain g0
      have hspot := hsp (by omega)
      refine ⟨a'.block, a'.off, by cases a'; simp at hspot; subst hspot; rfl, fun i hi => ?_⟩
      simp only [List.length_map, List.length_range] at hi
      have k0 := hf i hi
      rw [(addr_plain k0).2, hspot] at k0
      simp only [ite_self] at k0
      simp only [List.getElem_map, List.getElem_range]
      exact k0

end
end Go.Proofs.YtaghaigckgckpaaDoor
