/-
  ARGUMENTS OPENED: a slice of rows.
-/
import Derived.Test.YtaghaigckgckpaaDoorOpen
namespace Go.Proofs.YtaghaigckgckpaaDoor
open Go.ChangeShapes Go.WideShapes Go.ChangeAt Go.RowKit Go.Deep

section
variable {H : Type} {enc : TypeId × Value → H} {w : World} {base : Nat} {sp : Nat → Bool} {held : Bool}

theorem open_rowcs {t : TypeId} (ht : Tryd.prog.underlying t = some (.slice 43)) {fuel : Nat} {cs : List Value} {x : DataW H × List MemPlace}
    (h : DataW.trod enc Tryd.prog w base sp held fuel t cs = some x) : ∃ (A : Option Addr) (r : List V) (c : Nat), cs = [.slice A r.length c] ∧ r.length ≤ 9223372036854775807 ∧ RowAt w A r ∧ (∀ u ∈ r, u.wf) ∧ r.length ≤ c := by
  rcases open_slice ht h with ⟨h0, _⟩ | ⟨a', len', cap', m, n, D, Pl, hcs, _, hle, hmx, hm, _, hel⟩
  · exact ⟨none, [], 0, h0, by simp, RowAt.nil, by simp, by simp⟩
  · have hc3 : Tryd.prog.cellsOf 43 = 3 := by kernel_rfl
    rw [hc3] at hel
    have hml : len' ≤ m := by rw [hm]; split <;> omega
    obtain ⟨f, hf⟩ := choose_lt (α := V) (p := fun i v => v.wf ∧ w.cell? (a'.add (i * 3)) = some (.int .i64 v.k) ∧ w.cell? (a'.add (i * 3 + 1)) = some (.int .i64 v.n) ∧ w.cell? (a'.add (i * 3 + 2)) = some (.string v.s)) (n := len') (fun i hi => by
      obtain ⟨cs', h1, h2⟩ := hel i (by omega)
      obtain ⟨u, hu, rfl⟩ := trod_V h2
      obtain ⟨_, _, hg⟩ := World.cells?_some h1
      have g0 := hg 0 (by omega)
      have g1 := hg 1 (by omega)
      have g2 := hg 2 (by omega)
      rw [Go.Deep.add_add] at g0 g1 g2
      exact ⟨u, hu, g0, g1, g2⟩)
    refine ⟨some a', (List.range len').map f, cap', by rw [hcs]; simp, ?_, ?_, ?_, by simpa using hle⟩
    · simp only [List.length_map, List.length_range]; unfold maxLen at hmx; omega
    · intro hl
      simp only [List.length_map, List.length_range] at hl
      obtain ⟨_, g0, _⟩ := hf 0 hl
      obtain ⟨hsp, _⟩ := addr_plain g0
      have hspot := hsp (by omega)
      refine ⟨a'.block, a'.off, by cases a'; simp at hspot; subst hspot; rfl, fun i hi => ?_⟩
      simp only [List.length_map, List.length_range] at hi
      obtain ⟨_, k0, k1, k2⟩ := hf i hi
      rw [(addr_plain k0).2, hspot] at k0
      rw [(addr_plain k1).2, hspot] at k1
      rw [(addr_plain k2).2, hspot] at k2
      simp only [ite_self] at k0 k1 k2
      simp only [List.getElem_map, List.getElem_range]
      exact ⟨k0, k1, k2⟩
    · intro u hu
      obtain ⟨i, hi, rfl⟩ := List.mem_map.1 hu
      exact (hf i (List.mem_range.1 hi)).1

theorem open_rows {t : TypeId} (ht : Tryd.prog.underlying t = some (.slice 35)) {fuel : Nat} {v : Value} {x : DataW H × List MemPlace} (hs : ∃ a len cap, v = .slice a len cap)
    (h : DataW.trod enc Tryd.prog w base sp held fuel t v.cells.toList = some x) : ∃ (A : Option Addr) (rs : List (List V)) (c : Nat), v = .slice A rs.length c ∧ rs.length ≤ 9223372036854775807 ∧ RowsAt w A rs := by
  obtain ⟨a, len, cap, rfl⟩ := hs
  rcases open_slice1 ht (by kernel_rfl) h with ⟨h0, _⟩ | ⟨a', len', cap', m, n, U, D, Pl, hcs, _, hle, hmx, hm, _, hel⟩
  · injection h0 with h0 _
    injection h0 with e1 e2 e3
    subst e1 e2 e3
    exact ⟨none, [], 0, rfl, by simp, fun h => absurd h (by simp)⟩
  · injection hcs with h0 _
    injection h0 with e1 e2 e3
    subst e1 e2 e3
    have hml : len ≤ m := by rw [hm]; split <;> omega
    obtain ⟨f, hf⟩ := choose_lt (α := List V) (p := fun i r => ∃ A' c', w.cell? (a'.add i) = some (.slice A' r.length c') ∧ RowAt w A' r) (n := len) (fun i hi => by
      obtain ⟨h1, h2⟩ := hel i (by omega)
      obtain ⟨A', r, c', e, _, hr, _⟩ := open_rowcs Tryd.underlying35 h2
      injection e with e _
      exact ⟨r, A', c', by rw [h1, e], hr⟩)
    refine ⟨some a', (List.range len).map f, cap, by simp, ?_, ?_⟩
    · simp only [List.length_map, List.length_range]; unfold maxLen at hmx; omega
    · intro hl
      simp only [List.length_map, List.length_range] at hl
      obtain ⟨_, _, g0, _⟩ := hf 0 hl
      obtain ⟨hsp, _⟩ := addr_plain g0
      have hspot := hsp (by omega)
      refine ⟨a'.block, a'.off, by cases a'; simp at hspot; subst hspot; rfl, fun i hi => ?_⟩
      simp only [List.length_map, List.length_range] at hi
      obtain ⟨A', c', k0, kr⟩ := hf i hi
      rw [(addr_plain k0).2, hspot] at k0
      simp only [ite_self] at k0
      simp only [List.getElem_map, List.getElem_range]
      exact ⟨A', c', k0, kr⟩
theorem open_rowsz {t : TypeId} (ht : Tryd.prog.underlying t = some (.slice 35)) {fuel : Nat} {v : Value} {x : DataW H × List MemPlace} (hs : ∃ a len cap, v = .slice a len cap)
    (h : DataW.trod enc Tryd.prog w base sp held fuel t v.cells.toList = some x) : ∃ (A : Option Addr) (rs : List (List V)) (c : Nat), v = .slice A rs.length c ∧ rs.length ≤ 9223372036854775807 ∧ RowsAt w A rs ∧ (A = none → c = 0) ∧ ((x.1.weights Tryd.prog t).all (· ≤ reachBytes) = true → (rs.length + 1) * 24 ≤ 140737488355328) := by
  obtain ⟨a, len, cap, rfl⟩ := hs
  rcases open_slice1 ht (by kernel_rfl) h with ⟨h0, _⟩ | ⟨a', len', cap', m, n, U, D, Pl, hcs, _, hle, hmx, hm, hx, hel⟩
  · injection h0 with h0 _
    injection h0 with e1 e2 e3
    subst e1 e2 e3
    exact ⟨none, [], 0, rfl, by simp, fun h => absurd h (by simp), fun _ => rfl, fun _ => by simp⟩
  · injection hcs with h0 _
    injection h0 with e1 e2 e3
    subst e1 e2 e3
    have hml : len ≤ m := by rw [hm]; split <;> omega
    obtain ⟨f, hf⟩ := choose_lt (α := List V) (p := fun i r => ∃ A' c', w.cell? (a'.add i) = some (.slice A' r.length c') ∧ RowAt w A' r) (n := len) (fun i hi => by
      obtain ⟨h1, h2⟩ := hel i (by omega)
      obtain ⟨A', r, c', e, _, hr, _⟩ := open_rowcs Tryd.underlying35 h2
      injection e with e _
      exact ⟨r, A', c', by rw [h1, e], hr⟩)
    refine ⟨some a', (List.range len).map f, cap, by simp, ?_, ?_, (fun h => nomatch h), fun hw => ?_⟩
    · simp only [List.length_map, List.length_range]; unfold maxLen at hmx; omega
    · intro hl
      simp only [List.length_map, List.length_range] at hl
      obtain ⟨_, _, g0, _⟩ := hf 0 hl
      obtain ⟨hsp, _⟩ := addr_plain g0
      have hspot := hsp (by omega)
      refine ⟨a'.block, a'.off, by cases a'; simp at hspot; subst hspot; rfl, fun i hi => ?_⟩
      simp only [List.length_map, List.length_range] at hi
      obtain ⟨A', c', k0, kr⟩ := hf i hi
      rw [(addr_plain k0).2, hspot] at k0
      simp only [ite_self] at k0
      simp only [List.getElem_map, List.getElem_range]
      exact ⟨A', c', k0, kr⟩
    · rw [hx] at hw
      rw [DataW.weights, ht] at hw
      simp only [List.all_cons, Bool.and_eq_true] at hw
      have h2 := of_decide_eq_true hw.1
      have hb : Tryd.prog.bytesOf 35 = 24 := by kernel_rfl
      rw [hb] at h2
      unfold reachBytes at h2
      simp only [List.length_map, List.length_range] at h2 ⊢
      omega
end
end Go.Proofs.YtaghaigckgckpaaDoor
