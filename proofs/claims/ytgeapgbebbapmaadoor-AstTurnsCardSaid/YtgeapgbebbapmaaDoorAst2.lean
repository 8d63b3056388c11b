/-
  QUERIES IN MEMORY: which cells hold which query.
-/
import Derived.Test.YtgeapgbebbapmaaDoorAst1
import Derived.Test.YtgeapgbebbapmaaDoorKit3
namespace Go.Proofs.YtgeapgbebbapmaaDoor
open Go.RowKit

/-- Strings. -/
def NmsAt (w : World) (A : Option Addr) (l : List Str) : Prop :=
  0 < l.length → ∃ b o, A = some ⟨b, o, none⟩ ∧ ∀ i (h : i < l.length), w.cell? ⟨b, o + i, none⟩ = some (.string ⟨l[i].toArray⟩)
def TrmsAt (w : World) (A : Option Addr) (l : List Trm) : Prop :=
  0 < l.length → ∃ b o, A = some ⟨b, o, none⟩ ∧ ∀ i (h : i < l.length), w.cell? ⟨b, o + i * 4, none⟩ = some (.string ⟨l[i].v.toArray⟩) ∧ w.cell? ⟨b, o + i * 4 + 1, none⟩ = some (.int .i64 l[i].c.k) ∧ w.cell? ⟨b, o + i * 4 + 2, none⟩ = some (.int .i64 l[i].c.n) ∧ w.cell? ⟨b, o + i * 4 + 3, none⟩ = some (.string l[i].c.s)
def AtmsAt (w : World) (A : Option Addr) (l : List Atm) : Prop :=
  0 < l.length → ∃ b o, A = some ⟨b, o, none⟩ ∧ ∀ i (h : i < l.length), ∃ T c, w.cell? ⟨b, o + i * 3, none⟩ = some (.bool l[i].neg) ∧ w.cell? ⟨b, o + i * 3 + 1, none⟩ = some (.string ⟨l[i].rel.toArray⟩) ∧ w.cell? ⟨b, o + i * 3 + 2, none⟩ = some (.slice T l[i].ts.length c) ∧ TrmsAt w T l[i].ts ∧ l[i].ts.length ≤ c ∧ l[i].ts.length ≤ 9223372036854775807
def CndsAt (w : World) (A : Option Addr) (l : List Cnd) : Prop :=
  0 < l.length → ∃ b o, A = some ⟨b, o, none⟩ ∧ ∀ i (h : i < l.length), w.cell? ⟨b, o + i * 5, none⟩ = some (.string ⟨l[i].v.toArray⟩) ∧ w.cell? ⟨b, o + i * 5 + 1, none⟩ = some (.int .i64 l[i].op) ∧ w.cell? ⟨b, o + i * 5 + 2, none⟩ = some (.int .i64 l[i].c.k) ∧ w.cell? ⟨b, o + i * 5 + 3, none⟩ = some (.int .i64 l[i].c.n) ∧ w.cell? ⟨b, o + i * 5 + 4, none⟩ = some (.string l[i].c.s)
def KysAt (w : World) (A : Option Addr) (l : List Ky) : Prop :=
  0 < l.length → ∃ b o, A = some ⟨b, o, none⟩ ∧ ∀ i (h : i < l.length), w.cell? ⟨b, o + i * 2, none⟩ = some (.string ⟨l[i].v.toArray⟩) ∧ w.cell? ⟨b, o + i * 2 + 1, none⟩ = some (.bool l[i].desc)
def RulsAt (w : World) (A : Option Addr) (l : List Rul) : Prop :=
  0 < l.length → ∃ b o, A = some ⟨b, o, none⟩ ∧ ∀ i (h : i < l.length), ∃ T c T' c', w.cell? ⟨b, o + i * 2, none⟩ = some (.slice T l[i].atoms.length c) ∧ w.cell? ⟨b, o + i * 2 + 1, none⟩ = some (.slice T' l[i].conds.length c') ∧ AtmsAt w T l[i].atoms ∧ CndsAt w T' l[i].conds ∧ l[i].atoms.length ≤ c ∧ l[i].conds.length ≤ c' ∧ l[i].atoms.length ≤ 9223372036854775807 ∧ l[i].conds.length ≤ 9223372036854775807

section
variable {w w' : World} {A : Option Addr}
theorem NmsAt.below {l : List Str} (h : NmsAt w A l) (hb : Below w.heap.size w w') : NmsAt w' A l := fun hp => by
  obtain ⟨b, o, e, hc⟩ := h hp
  exact ⟨b, o, e, fun i hi => cell_keep hb (hc i hi)⟩
theorem TrmsAt.below {l : List Trm} (h : TrmsAt w A l) (hb : Below w.heap.size w w') : TrmsAt w' A l := fun hp => by
  obtain ⟨b, o, e, hc⟩ := h hp
  refine ⟨b, o, e, fun i hi => ?_⟩
  obtain ⟨h0, h1, h2, h3⟩ := hc i hi
  exact ⟨cell_keep hb h0, cell_keep hb h1, cell_keep hb h2, cell_keep hb h3⟩
theorem AtmsAt.below {l : List Atm} (h : AtmsAt w A l) (hb : Below w.heap.size w w') : AtmsAt w' A l := fun hp => by
  obtain ⟨b, o, e, hc⟩ := h hp
  refine ⟨b, o, e, fun i hi => ?_⟩
  obtain ⟨T, c, h0, h1, h2, h3, h4, h5⟩ := hc i hi
  exact ⟨T, c, cell_keep hb h0, cell_keep hb h1, cell_keep hb h2, h3.below hb, h4, h5⟩
theorem CndsAt.below {l : List Cnd} (h : CndsAt w A l) (hb : Below w.heap.size w w') : CndsAt w' A l := fun hp => by
  obtain ⟨b, o, e, hc⟩ := h hp
  refine ⟨b, o, e, fun i hi => ?_⟩
  obtain ⟨h0, h1, h2, h3, h4⟩ := hc i hi
  exact ⟨cell_keep hb h0, cell_keep hb h1, cell_keep hb h2, cell_keep hb h3, cell_keep hb h4⟩
theorem KysAt.below {l : List Ky} (h : KysAt w A l) (hb : Below w.heap.size w w') : KysAt w' A l := fun hp => by
  obtain ⟨b, o, e, hc⟩ := h hp
  refine ⟨b, o, e, fun i hi => ?_⟩
  obtain ⟨h0, h1⟩ := hc i hi
  exact ⟨cell_keep hb h0, cell_keep hb h1⟩
theorem RulsAt.below {l : List Rul} (h : RulsAt w A l) (hb : Below w.heap.size w w') : RulsAt w' A l := fun hp => by
  obtain ⟨b, o, e, hc⟩ := h hp
  refine ⟨b, o, e, fun i hi => ?_⟩
  obtain ⟨T, c, T', c', h0, h1, h2, h3, h4⟩ := hc i hi
  exact ⟨T, c, T', c', cell_keep hb h0, cell_keep hb h1, h2.below hb, h3.below hb, h4⟩
theorem NmsAt.nil : NmsAt w A [] := fun h => absurd h (by simp)
theorem TrmsAt.nil : TrmsAt w A [] := fun h => absurd h (by simp)
theorem AtmsAt.nil : AtmsAt w A [] := fun h => absurd h (by simp)
theorem CndsAt.nil : CndsAt w A [] := fun h => absurd h (by simp)
theorem KysAt.nil : KysAt w A [] := fun h => absurd h (by simp)
theorem RulsAt.nil : RulsAt w A [] := fun h => absurd h (by simp)
end
end Go.Proofs.YtgeapgbebbapmaaDoor
