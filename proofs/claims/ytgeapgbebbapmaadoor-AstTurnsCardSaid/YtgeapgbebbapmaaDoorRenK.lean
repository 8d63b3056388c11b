/-
  FACTS ON TYPES: what the program says of the structs that a query holds.
-/
import Derived.Test.YtgeapgbebbapmaaDoorAst11
import Derived.Test.YtgeapgbebbapmaaDoorReg
import Derived.Test.YtgeapgbebbapmaaDoorRes
import Derived.ArgAppend
namespace Go.Proofs.YtgeapgbebbapmaaDoor
open Go.RowKit

theorem infoTrmN : (Tryd.prog.info? 56).map (fun i => (i.zero, i.size, i.bytes)) = some (some (.agg #[.string ⟨#[]⟩, .int .i64 0, .int .i64 0, .string ⟨#[]⟩]), 4, 48) := by kernel_rfl
theorem infoAtmN : (Tryd.prog.info? 60).map (fun i => (i.zero, i.size, i.bytes)) = some (some (.agg #[.bool false, .string ⟨#[]⟩, .slice none 0 0]), 3, 48) := by kernel_rfl
theorem infoCndN : (Tryd.prog.info? 62).map (fun i => (i.zero, i.size, i.bytes)) = some (some (.agg #[.string ⟨#[]⟩, .int .i64 0, .int .i64 0, .int .i64 0, .string ⟨#[]⟩]), 5, 56) := by kernel_rfl
theorem infoRulN : (Tryd.prog.info? 49).map (fun i => (i.zero, i.size, i.bytes)) = some (some (.agg #[.slice none 0 0, .slice none 0 0]), 2, 48) := by kernel_rfl
theorem infoKeyN : (Tryd.prog.info? 44).map (fun i => (i.zero, i.size, i.bytes)) = some (some (.agg #[.string ⟨#[]⟩, .bool false]), 2, 24) := by kernel_rfl
theorem infoQryN : (Tryd.prog.info? 26).map (·.size) = some 5 := by kernel_rfl
theorem rcell {w : World} {b o : Nat} {vs : Array Value} {e : TypeId} (h : w.heap[b]? = some (.cells vs e (0, 0))) {v : Value} (hv : vs[o]? = some v) : w.cell? ⟨b, o, none⟩ = some v := by
  rw [cell_res' h]; exact hv
theorem rbox {w : World} {b : Nat} {v0 v1 v2 v3 v4 : Value} {t : TypeId} (h : w.heap[b]? = some (.cells #[v0, v1, v2, v3, v4] t (0, 0))) :
    w.cell? ⟨b, 0, none⟩ = some v0 ∧ w.cell? ⟨b, 1, none⟩ = some v1 ∧ w.cell? ⟨b, 2, none⟩ = some v2 ∧ w.cell? ⟨b, 3, none⟩ = some v3 ∧ w.cell? ⟨b, 4, none⟩ = some v4 ∧ b < w.heap.size :=
  ⟨rcell h rfl, rcell h rfl, rcell h rfl, rcell h rfl, rcell h rfl, lt_of_block h⟩
theorem rcell2 {w : World} {b : Nat} {v0 v1 : Value} {t : TypeId} (h : w.heap[b]? = some (.cells #[v0, v1] t (0, 0))) : w.cell? ⟨b, 0, none⟩ = some v0 ∧ w.cell? ⟨b, 1, none⟩ = some v1 := ⟨rcell h rfl, rcell h rfl⟩
theorem rcell3 {w : World} {b : Nat} {v0 v1 v2 : Value} {t : TypeId} (h : w.heap[b]? = some (.cells #[v0, v1, v2] t (0, 0))) : w.cell? ⟨b, 0, none⟩ = some v0 ∧ w.cell? ⟨b, 1, none⟩ = some v1 ∧ w.cell? ⟨b, 2, none⟩ = some v2 := ⟨rcell h rfl, rcell h rfl, rcell h rfl⟩
theorem rthenK_n {Q : Exit → Act → World → Prop} {K : Act → World → Prop} {a : Act} {w : World} (h : K a w) : thenK Q K .normal a w := h
theorem rkf {d : Nat → Bool} {i j : Nat} {A B : Prop} (hne : (j == i) = false) (f : Hid (d j = true → A)) (g : A → B) : Hid (upd d i j = true → B) := hid fun h => g (f.out (by
  have : j ≠ i := by simpa using hne
  unfold upd at h
  rwa [if_neg this] at h))
theorem rkd {d : Nat → Bool} {i j : Nat} (hne : (j == i) = false) (f : Hid (d j = false)) : upd d i j = false := by
  have : j ≠ i := by simpa using hne
  unfold upd
  rw [if_neg this]
  exact f.out
theorem rnf {d : Nat → Bool} {i : Nat} {B : Prop} (b : B) : Hid (upd d i i = true → B) := hid fun _ => b
theorem runupd {d : Nat → Bool} {i j : Nat} (hne : (j == i) = false) (h : upd d i j = false) : d j = false := by
  have : j ≠ i := by simpa using hne
  unfold upd at h
  rwa [if_neg this] at h
theorem rupd_self {d : Nat → Bool} {i : Nat} (h : upd d i i = false) : False := by
  unfold upd at h
  rw [if_pos rfl] at h
  cases h
theorem ren_cells {w : World} {g : Nat} {cs : Array Value} {e : TypeId} (h : w.heap[g]? = some (.cells cs e (0, 0))) {l : List Value} (hl : cs.toList = l) : ∀ j u, l[j]? = some u → w.cell? (Addr.add ⟨g, 0, none⟩ j) = some u := by
  intro j u hj
  subst hl
  rw [Addr.add_lit, Nat.zero_add, cell_res' h]
  simpa using hj
theorem ren_one {l : List Value} (h : l.all (·.oneCell') = true) : ∀ u ∈ l, u.oneCell' = true := fun u hu => List.all_eq_true.1 h u hu
end Go.Proofs.YtgeapgbebbapmaaDoor
