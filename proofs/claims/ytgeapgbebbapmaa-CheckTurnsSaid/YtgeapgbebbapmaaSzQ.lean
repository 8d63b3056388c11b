/-
  ARGUMENTS' SIZES: what the form says of the lengths of a rule's and a query's lists, read out of memory before the call.
-/
import Derived.Test.YtgeapgbebbapmaaOpenQ
import Derived.SizedLaws
namespace Go.Proofs.Ytgeapgbebbapmaa
open Go.ChangeShapes Go.WideShapes Go.ChangeAt Go.RowKit Go.Deep

section
variable {H : Type} {enc : TypeId × Value → H} {w : World} {base : Nat} {sp : Nat → Bool} {held : Bool}
def okW (t : TypeId) (d : DataW H) : Prop := (d.weights Try.prog t).all (· ≤ reachBytes) = true
theorem okW_all {e : TypeId} : ∀ {l : List (DataW H)}, (DataW.weightsAll Try.prog e l).all (· ≤ reachBytes) = true → ∀ d ∈ l, okW e d
  | d :: r, h, x, hx => by
    rw [DataW.weightsAll, List.all_append, Bool.and_eq_true] at h
    rcases List.mem_cons.1 hx with rfl | hx
    · exact h.1
    · exact okW_all h.2 x hx
theorem okW_slice {e t : TypeId} (ht : Try.prog.underlying t = some (.slice e)) {elems spare : List (DataW H)} (h : okW t (.slice elems spare)) : elems.length * Try.prog.bytesOf e ≤ reachBytes ∧ ∀ d ∈ elems, okW e d := by
  unfold okW at h
  rw [DataW.weights, ht] at h
  simp only [List.all_cons, List.all_append, Bool.and_eq_true, decide_eq_true_eq] at h
  obtain ⟨h1, h2, _⟩ := h
  refine ⟨Nat.le_trans (Nat.mul_le_mul_right _ (Nat.le_add_right _ _)) h1, okW_all h2⟩
theorem okW_field {t : TypeId} {fs : Array Field} (ht : Try.prog.underlying t = some (.struct fs)) {parts : List (DataW H)} (h : okW t (.agg parts)) {j : Nat} {f : Field} (hf : fs[j]? = some f) {d : DataW H} (hd : parts[j]? = some d) : okW f.type d := by
  unfold okW at h ⊢
  rw [DataW.weights, ht] at h
  rw [List.all_eq_true] at h ⊢
  intro n hn
  exact h n (DataW.weights_mem_each (t := f.type) (d := d) (j := j) (by simp [hf]) hd n hn)
theorem sz_slice {e t : TypeId} (ht : Try.prog.underlying t = some (.slice e)) {fuel : Nat} {A : Option Addr} {len c : Nat} {x : DataW H × List MemPlace} (h : DataW.trod enc Try.prog w base sp held fuel t [.slice A len c] = some x) (hw : okW t x.1) :
    len * Try.prog.bytesOf e ≤ reachBytes ∧ (0 < len → ∃ a, A = some a ∧ ∀ i, i < len → ∃ n cs' y, w.cells? base (a.add (i * Try.prog.cellsOf e)) (Try.prog.cellsOf e) = some cs' ∧ DataW.trod enc Try.prog w base sp held n e cs' = some y ∧ okW e y.1) := by
  rcases DataW.trod_slice ht h with ⟨h0, _⟩ | ⟨a, len', cap, elems, rest, n, _, hcs, rfl, _, _, _, hlen, hel, _⟩
  · injection h0 with h0 _
    injection h0 with _ h0 _
    subst h0
    simp
  · injection hcs with hcs _
    injection hcs with h1 h2 h3
    subst h1 h2 h3
    obtain ⟨h1, h2⟩ := okW_slice ht hw
    rw [List.length_map, hlen] at h1
    refine ⟨h1, fun _ => ⟨a, rfl, fun i hi => ?_⟩⟩
    have h3 := hel i hi
    rw [List.getElem?_eq_getElem (by omega)] at h3
    obtain ⟨cs', h4, h5⟩ := Option.bind_eq_some_iff.1 h3
    exact ⟨n, cs', _, h4, h5, h2 _ (List.mem_map.2 ⟨_, List.getElem_mem (by omega), rfl⟩)⟩
theorem sz_field {t : TypeId} {fs : Array Field} (ht : Try.prog.underlying t = some (.struct fs)) {fuel : Nat} {cs : List Value} {x : DataW H × List MemPlace} (h : DataW.trod enc Try.prog w base sp held fuel t cs = some x) (hw : okW t x.1) {j : Nat} {f : Field} (hf : fs[j]? = some f) :
    ∃ n y, DataW.trod enc Try.prog w base sp held n f.type ((cs.drop f.offset).take (Try.prog.cellsOf f.type)) = some y ∧ okW f.type y.1 := by
  obtain ⟨xs, n, _, rfl, _, hxl, hel⟩ := DataW.trod_struct ht h
  have hj : j < xs.length := by rw [hxl]; exact (Array.getElem?_eq_some_iff.1 hf).1
  have h1 := hel j f hf
  rw [List.getElem?_eq_getElem hj] at h1
  exact ⟨n, _, h1, okW_field ht hw hf (by simp [hj])⟩

theorem bytesA : Try.prog.bytesOf 51 = 48 := by kernel_rfl
theorem bytesT : Try.prog.bytesOf 81 = 48 := by kernel_rfl
theorem bytesC : Try.prog.bytesOf 79 = 56 := by kernel_rfl
theorem bytesR : Try.prog.bytesOf 46 = 48 := by kernel_rfl
theorem cellsA' : Try.prog.cellsOf 51 = 3 := by kernel_rfl
theorem cellsR' : Try.prog.cellsOf 46 = 2 := by kernel_rfl
/-- A rule whose lists have such lengths. -/
structure Rul.sz (r : Rul) : Prop where
  a : r.atoms.length ≤ 2932031007402
  c : r.conds.length ≤ 2932031007402
  t : ∀ a ∈ r.atoms, a.ts.length ≤ 2932031007402
theorem sz_48 {n : Nat} (h : n * 48 ≤ reachBytes) : n ≤ 2932031007402 := by
  have := reachBytes_lt
  have h2 : (2 : Nat) ^ 47 = 140737488355328 := by decide
  omega
theorem cell_add {b o n : Nat} : (Addr.add ⟨b, o, none⟩ n) = ⟨b, o + n, none⟩ := by
  unfold Addr.add
  by_cases h : n = 0
  · subst h; simp
  · simp [h]
set_option maxRecDepth 100000 in
theorem sz_rul {n : Nat} {T T2 : Option Addr} {r : Rul} {c c2 : Nat} {x : DataW H × List MemPlace} (h : DataW.trod enc Try.prog w base sp held n 46 [.slice T r.atoms.length c, .slice T2 r.conds.length c2] = some x) (hw : okW 46 x.1) (ha : AtmsAt w T r.atoms) : r.sz := by
  obtain ⟨n0, y0, h0, w0⟩ := sz_field Try.underlying46 h hw (j := 0) rfl
  obtain ⟨n1, y1, h1, w1⟩ := sz_field Try.underlying46 h hw (j := 1) rfl
  have h0' : DataW.trod enc Try.prog w base sp held n0 43 [.slice T r.atoms.length c] = some y0 := h0
  have h1' : DataW.trod enc Try.prog w base sp held n1 44 [.slice T2 r.conds.length c2] = some y1 := h1
  obtain ⟨b0, e0⟩ := sz_slice Try.underlying43 h0' w0
  obtain ⟨b1, _⟩ := sz_slice Try.underlying44 h1' w1
  rw [bytesA] at b0
  rw [bytesC] at b1
  refine ⟨sz_48 b0, sz_48 (by omega), fun a hma => ?_⟩
  obtain ⟨i, hi, rfl⟩ := List.getElem_of_mem hma
  obtain ⟨ad, rfl, hel⟩ := e0 (by omega)
  obtain ⟨m, cs', y, hc, ht, hy⟩ := hel i hi
  obtain ⟨b, o, e, hcell⟩ := ha (by omega)
  injection e with e
  subst e
  obtain ⟨Ti, ci, _, _, c2', _⟩ := hcell i hi
  obtain ⟨_, hl, hg⟩ := World.cells?_some hc
  rw [cellsA'] at hl hg
  have g2 := hg 2 (by omega)
  rw [cell_add, cell_add] at g2
  rw [c2'] at g2
  obtain ⟨n3, y3, h3, w3⟩ := sz_field Try.underlying51 ht hy (j := 2) rfl
  have h3' : DataW.trod enc Try.prog w base sp held n3 49 [.slice Ti r.atoms[i].ts.length ci] = some y3 := by
    have e3 : (cs'.drop 2).take 1 = [.slice Ti r.atoms[i].ts.length ci] := by
      match cs', hl with
      | [v0, v1, v2], _ => simp at g2; subst g2; rfl
    rw [← e3]; exact h3
  have b3 := (sz_slice Try.underlying49 h3' w3).1
  rw [bytesT] at b3
  exact sz_48 b3
set_option maxRecDepth 100000 in
theorem sz_qry {n : Nat} {A R O : Option Addr} {q : Qry} {ch cr co : Nat} {x : DataW H × List MemPlace} {v : Value} (hv : v = qryV q A R O ch cr co) (h : DataW.trod enc Try.prog w base sp held n 26 v.cells.toList = some x) (hw : okW 26 x.1) (hr : RulsAt w R q.rules) : q.rules.length ≤ 2932031007402 ∧ ∀ r ∈ q.rules, r.sz := by
  subst hv
  obtain ⟨n0, y0, h0, w0⟩ := sz_field Try.underlying26 h hw (j := 3) rfl
  have h0' : DataW.trod enc Try.prog w base sp held n0 23 [.slice R q.rules.length cr] = some y0 := h0
  obtain ⟨b0, e0⟩ := sz_slice Try.underlying23 h0' w0
  rw [bytesR] at b0
  refine ⟨sz_48 b0, fun r hmr => ?_⟩
  obtain ⟨i, hi, rfl⟩ := List.getElem_of_mem hmr
  obtain ⟨ad, rfl, hel⟩ := e0 (by omega)
  obtain ⟨m, cs', y, hc, ht, hy⟩ := hel i hi
  obtain ⟨b, o, e, hcell⟩ := hr (by omega)
  injection e with e
  subst e
  obtain ⟨Ti, ci, Tj, cj, c0', c1', ha, _⟩ := hcell i hi
  obtain ⟨_, hl, hg⟩ := World.cells?_some hc
  rw [cellsR'] at hl hg
  have g0 := hg 0 (by omega)
  have g1 := hg 1 (by omega)
  rw [cell_add, cell_add] at g0 g1
  rw [Nat.add_zero, c0'] at g0
  rw [c1'] at g1
  have e3 : cs' = [.slice Ti q.rules[i].atoms.length ci, .slice Tj q.rules[i].conds.length cj] := by
    match cs', hl with
    | [v0, v1], _ => simp at g0 g1; subst g0 g1; rfl
  rw [e3] at ht
  exact sz_rul ht hy ha
theorem okW_each {t : TypeId} {ts : List TypeId} {d : DataW H} {ds : List (DataW H)} (h : (DataW.weightsEach Try.prog (t :: ts) (d :: ds)).all (· ≤ reachBytes) = true) : okW t d ∧ (DataW.weightsEach Try.prog ts ds).all (· ≤ reachBytes) = true := by
  rw [DataW.weightsEach, List.all_append, Bool.and_eq_true] at h
  exact h
end
end Go.Proofs.Ytgeapgbebbapmaa
