/-
  PARTS of a claim, merged by segs.py: CwRf1.
-/
import Derived.Test.YtggfcdhkgldbfaaDoorS32
import Derived.Test.YtggfcdhkgldbfaaDoorS38
namespace Go.Proofs.YtggfcdhkgldbfaaDoor
set_option linter.unusedSimpArgs false
set_option linter.unusedVariables false

/-! ### CwRf1 -/
section
set_option linter.unusedSimpArgs false
open Go Go.Conc Go.RowKit Go.ConcR.Gen Cw

theorem arrG105 (T : Array Value) (h : T.size = 105) : T = #[gv T 0, gv T 1, gv T 2, gv T 3, gv T 4, gv T 5, gv T 6, gv T 7, gv T 8, gv T 9, gv T 10, gv T 11, gv T 12, gv T 13, gv T 14, gv T 15, gv T 16, gv T 17, gv T 18, gv T 19, gv T 20, gv T 21, gv T 22, gv T 23, gv T 24, gv T 25, gv T 26, gv T 27, gv T 28, gv T 29, gv T 30, gv T 31, gv T 32, gv T 33, gv T 34, gv T 35, gv T 36, gv T 37, gv T 38, gv T 39, gv T 40, gv T 41, gv T 42, gv T 43, gv T 44, gv T 45, gv T 46, gv T 47, gv T 48, gv T 49, gv T 50, gv T 51, gv T 52, gv T 53, gv T 54, gv T 55, gv T 56, gv T 57, gv T 58, gv T 59, gv T 60, gv T 61, gv T 62, gv T 63, gv T 64, gv T 65, gv T 66, gv T 67, gv T 68, gv T 69, gv T 70, gv T 71, gv T 72, gv T 73, gv T 74, gv T 75, gv T 76, gv T 77, gv T 78, gv T 79, gv T 80, gv T 81, gv T 82, gv T 83, gv T 84, gv T 85, gv T 86, gv T 87, gv T 88, gv T 89, gv T 90, gv T 91, gv T 92, gv T 93, gv T 94, gv T 95, gv T 96, gv T 97, gv T 98, gv T 99, gv T 100, gv T 101, gv T 102, gv T 103, gv T 104] := (arr_eq T 105 h).trans (by rfl)
theorem kn_new {W w : World} {l : List (Nat × Obj)} (h : Kn W l w) (o : Obj) : ∃ b wz, w.alloc o = wz ∧ w.heap.size = b ∧ Kn W ((b, o) :: l) wz := ⟨_, _, rfl, rfl, h.alloc o⟩
/-- Through one part of a body. -/
theorem goes_partF {f : FuncId} {Sh : Loc → Prop} {mn : Bool} {x y : Code} {n : Nat} {K : Act → World → Prop} {a : Act} {w : World} (hK : ∀ a w w', K a w → Ext Vn w w' → K a w')
    (hx : ∀ w', Ext Vn w w' → x.wpC Tryd.prog mn (Ext Vn) (HDq (Cx0 Sh)) f n (Exit.then K fun _ _ _ => False) a w') :
    Goes Tryd.prog mn (Ext Vn) (HDq (Cx0 Sh)) (fun g w => ∃ a', g = G ((base f).at a' (.code y :: [])) [] ∧ K a' w) (n + 1) (G ((base f).at a (.code (.seq x y) :: [])) []) w := by
  refine Goes.step rfl (fun w' hr => ?_)
  rw [stepG_seq]
  simp only [goes_go]
  refine ⟨hdq_idle _ _, ?_⟩
  have := wpC_goes (m := 0) (b := base f) (k := [.code y]) (cs := []) (Stop := fun g w => ∃ a', g = G ((base f).at a' (.code y :: [])) [] ∧ K a' w) (hx w' hr) rfl (by simp [base]) (fun e a' w' q => by
    cases e with
    | normal => exact Goes.stop fun w hr => ⟨a', rfl, hK _ _ _ q hr⟩
    | ret => exact q.elim
    | exit id => exact q.elim
    | goto l => exact q.elim
    | panic ch => exact q.elim
    | outgrown => exact q.elim)
  exact this.mono (by omega)
theorem cell_of_box {w : World} {b : Nat} {v : Value} {ty : TypeId} (h : w.heap[b]? = some (.cells #[v] ty (0, 0))) : w.cell? ⟨b, 0, none⟩ = some v := by simp [World.cell?, h]
theorem unf_of_box {w : World} {b : Nat} {v : Value} {ty : TypeId} (h : w.heap[b]? = some (.cells #[v] ty (0, 0))) : w.frozen? ⟨b, 0, none⟩ = false := by simp [World.frozen?, h]
/-- An adder of one step. -/
abbrev adV (sb : Nat) : Value := .iface 28 (.agg #[pb sb, .int .i64 1])
theorem taskInfo : ∃ i, Tryd.prog.info? 49 = some i ∧ i.zero = some .nilIface ∧ i.size = 1 ∧ i.bytes = 16 := by
  have h : (Tryd.prog.info? 49).map (fun i => (i.zero, i.size, i.bytes)) = some (some .nilIface, 1, 16) := by kernel_rfl
  obtain ⟨i, hi, hb⟩ := Option.map_eq_some_iff.1 h
  simp at hb
  exact ⟨i, hi, hb⟩
theorem btA (sb : Nat) (w : World) : (Instr.buildSlice 25 1 #[(0, adV sb)]).run Tryd.prog w = .ok (.slice (some ⟨w.heap.size, 0, none⟩) 1 1) (w.alloc (.cells #[adV sb] 49)) := by
  obtain ⟨it, hit, h1, h2, _⟩ := taskInfo
  refine run_buildSlice w _ _ 1 _ _ it _ (by kernel_rfl) hit h1 (by rw [h2]; omega) (by rw [h2]; omega) ?_
  rw [h2]
  kernel_rfl
theorem btAE (sb : Nat) (w : World) (es : Array Event) : (Instr.buildSlice 25 1 #[(0, adV sb)]).events Tryd.prog w es = es := by
  obtain ⟨it, hit, h1, h2, _⟩ := taskInfo
  simp [Instr.buildSlice, go_sem, sizeOf, typeInfo, zeroValue, hit, h1, h2]
theorem bldA (sb : Nat) (w : World) : (Instr.build 28 #[(0, pb sb), (1, .int .i64 1)]).run Tryd.prog w = .ok (.agg #[pb sb, .int .i64 1]) w := run_build w _ _ _ (by kernel_rfl)
theorem mkA (x : Value) (w : World) : (Instr.makeInterface 28 x).run Tryd.prog w = .ok (.iface 28 x) w := by
  simp [Instr.makeInterface, go_sem, run_underlying Tryd.underlying28]
theorem mkAE (x : Value) (w : World) (es : Array Event) : (Instr.makeInterface 28 x).events Tryd.prog w es = es := by
  simp [Instr.makeInterface, go_sem, run_underlying Tryd.underlying28]
theorem adInfo : ∃ i, Tryd.prog.info? 28 = some i ∧ i.zero = some (.agg #[.pointer none, .int .i64 0]) ∧ i.size = 2 := by
  have h : (Tryd.prog.info? 28).map (fun i => (i.zero, i.size)) = some (some (.agg #[.pointer none, .int .i64 0]), 2) := by kernel_rfl
  obtain ⟨i, hi, hb⟩ := Option.map_eq_some_iff.1 h
  simp at hb
  exact ⟨i, hi, hb⟩
theorem bldAE (sb : Nat) (w : World) (es : Array Event) : (Instr.build 28 #[(0, pb sb), (1, .int .i64 1)]).events Tryd.prog w es = es := by
  obtain ⟨it, hit, h1, _⟩ := adInfo
  obtain ⟨i3, h3, g3⟩ := sz_of 3 (n := 1) (by kernel_rfl)
  obtain ⟨i9, h9, g9⟩ := sz_of 26 (n := 1) (by kernel_rfl)
  simp [Instr.build, go_sem, sizeOf, typeInfo, zeroValue, hit, h1, h3, g3, h9, g9]
end
end Go.Proofs.YtggfcdhkgldbfaaDoor
