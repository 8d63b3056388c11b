/-
  ARGUMENTS OPENED: a slice of bytes.
-/
import Derived.Test.YtemihmehppbgmaaDoorOpenV
import Derived.Test.YtemihmehppbgmaaDoorKit3
namespace Go.Proofs.YtemihmehppbgmaaDoor
open Go.ChangeShapes Go.WideShapes Go.ChangeAt Go.RowKit Go.Deep

/-- A slice of bytes. -/
def BytAt (w : World) (A : Option Addr) (l : List UInt8) : Prop :=
  0 < l.length → ∃ b o, A = some ⟨b, o, none⟩ ∧ ∀ i (h : i < l.length), w.cell? ⟨b, o + i, none⟩ = some (.int .u8 l[i].toNat)
theorem BytAt.below {w w' : World} {A : Option Addr} {l : List UInt8} (h : BytAt w A l) (hb : Below w.heap.size w w') : BytAt w' A l := fun hp => by
  obtain ⟨b, o, e, hc⟩ := h hp
  exact ⟨b, o, e, fun i hi => cell_keep hb (hc i hi)⟩

section
variable {H : Type} {enc : TypeId × Value → H} {w : World} {base : Nat} {sp : Nat → Bool} {held : Bool}
theorem open_u8s {t : TypeId} (ht : Tryd.prog.underlying t = some (.slice 5)) {fuel : Nat} {v : Value} {x : DataW H × List MemPlace} (hs : ∃ a len cap, v = .slice a len cap)
    (h : DataW.trod enc Tryd.prog w base sp held fuel t v.cells.toList = some x) : ∃ (A : Option Addr) (r : List UInt8) (c : Nat), v = .slice A r.length c ∧ r.length ≤ 9223372036854775807 ∧ BytAt w A r := by
  obtain ⟨a, len, cap, rfl⟩ := hs
  rcases open_slice1 ht (by kernel_rfl) h with ⟨h0, _⟩ | ⟨a', len', cap', m, n, U, D, Pl, hcs, _, hle, hmx, hm, _, hel⟩
  · injection h0 with h0 _
    injection h0 with e1 e2 e3
    subst e1 e2 e3
    exact ⟨none, [], 0, rfl, by simp, fun h => absurd h (by simp)⟩
  · injection hcs with h0 _
    injection h0 with e1 e2 e3
    subst e1 e2 e3
    have hml : len ≤ m := by rw [hm]; split <;> omega
    obtain ⟨f, hf⟩ := choose_lt (α := UInt8) (p := fun i v => w.cell? (a'.add i) = some (.int .u8 v.toNat)) (n := len) (fun i hi => by
      obtain ⟨h1, h2⟩ := hel i (by omega)
      obtain ⟨b, e, _, hw⟩ := DataW.trod_int Tryd.underlying5 h2
      injection e with e
      simp [Lit.wf, IntKind.min, IntKind.max, IntKind.signed, IntKind.bits] at hw
      refine ⟨UInt8.ofNat b.toNat, ?_⟩
      rw [h1, e, UInt8.toNat_ofNat_of_lt' (by show b.toNat < 256; omega), Int.toNat_of_nonneg (by omega)])
    refine ⟨some a', (List.range len).map f, cap, by simp, ?_, ?_⟩
    · simp only [List.length_map, List.length_range]; unfold maxLen at hmx; omega
    · intro hl
      simp only [List.length_map, List.length_range] at hl
      have g0 := hf 0 hl
      obtain ⟨hsp, _⟩ := addr_plain g0
      have hspot := hsp (by omega)
      refine ⟨a'.block, a'.off, by cases a'; simp at hspot; subst hspot; rfl, fun i hi => ?_⟩
      simp only [List.length_map, List.length_range] at hi
      have k0 := hf i hi
      rw [(addr_plain k0).2, hspot] at k0
      simp only [ite_self] at k0
      simp only [List.getElem_map, List.getElem_range]
      exact k0
end
end Go.Proofs.YtemihmehppbgmaaDoor
