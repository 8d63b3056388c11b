/-
  THE DOCUMENT'S RULES IN MEMORY (chapter 21): an atom as whether it is negated, its relation, and each term's variable and kind; a condition as its variable and kind.
-/
import Derived.Test.YtgeapgbebbapmaaRow3
namespace Go.Proofs.Ytgeapgbebbapmaa
open Go.RowKit

def rtC (t : Trm) : List Value := [.string ⟨t.v.toArray⟩, .int .i64 t.c.k]
def rcC (c : Cnd) : List Value := [.string ⟨c.v.toArray⟩, .int .i64 c.c.k]
def RTC (_ : World) (t : Trm) (cs : List Value) : Prop := cs = rtC t
def RCC (_ : World) (c : Cnd) (cs : List Value) : Prop := cs = rcC c
/-- Terms; conditions. -/
abbrev RTsAt (w : World) (A : Option Addr) (l : List Trm) : Prop := RowC RTC 2 w A l
abbrev RCsAt (w : World) (A : Option Addr) (l : List Cnd) : Prop := RowC RCC 2 w A l
def RAC (w : World) (a : Atm) (cs : List Value) : Prop := ∃ T c, cs = [.bool a.neg, .string ⟨a.rel.toArray⟩, .slice T a.ts.length c] ∧ RTsAt w T a.ts
/-- Atoms. -/
abbrev RAsAt (w : World) (A : Option Addr) (l : List Atm) : Prop := RowC RAC 3 w A l
theorem RTsAt.below {w w' : World} {A : Option Addr} {l : List Trm} (h : RTsAt w A l) (hb : Below w.heap.size w w') : RTsAt w' A l := RowC.below (fun _ h => h) h hb
theorem RCsAt.below {w w' : World} {A : Option Addr} {l : List Cnd} (h : RCsAt w A l) (hb : Below w.heap.size w w') : RCsAt w' A l := RowC.below (fun _ h => h) h hb
theorem RAC.below {w w' : World} {a : Atm} {cs : List Value} (hb : Below w.heap.size w w') (h : RAC w a cs) : RAC w' a cs := let ⟨T, c, h1, h2⟩ := h; ⟨T, c, h1, RTsAt.below h2 hb⟩
theorem RAsAt.below {w w' : World} {A : Option Addr} {l : List Atm} (h : RAsAt w A l) (hb : Below w.heap.size w w') : RAsAt w' A l := RowC.below (fun hb h => RAC.below hb h) h hb

/-- A row of terms of the call's own. -/
def OwnT (w : World) (B : Nat) (u : Value) (l : List Trm) : Prop := w.ownsRow B 100 2 u l.length (l.flatMap rtC)
theorem flat_range {α : Type} [Inhabited α] (f : α → List Value) : ∀ l : List α, l.flatMap f = (List.range l.length).flatMap fun i => f (l[i]?.getD default) := by
  intro l
  have h : ∀ n, n ≤ l.length → (l.take n).flatMap f = (List.range n).flatMap fun i => f (l[i]?.getD default) := by
    intro n
    induction n with
    | zero => intro _; simp
    | succ n ih =>
      intro hn
      have hlt : n < l.length := by omega
      rw [List.take_succ_eq_append_getElem hlt, List.flatMap_append, ih (by omega), flat_succ]
      simp [hlt]
  have := h l.length (Nat.le_refl _)
  rwa [List.take_length] at this
theorem OwnT.at {w : World} {B : Nat} {u : Value} {l : List Trm} (h : OwnT w B u l) : ∃ A c, u = .slice A l.length c ∧ RTsAt w A l ∧ l.length ≤ c := by
  unfold OwnT at h
  rw [flat_range] at h
  exact own_rowC (C := RTC) (fun _ => rfl) h fun i hi => by simp [RTC, hi]
theorem own_conds {w : World} {B : Nat} {e : TypeId} {u : Value} {l : List Cnd} (h : w.ownsRow B e 2 u l.length (l.flatMap rcC)) : ∃ A c, u = .slice A l.length c ∧ RCsAt w A l ∧ l.length ≤ c := by
  rw [flat_range] at h
  exact own_rowC (C := RCC) (fun _ => rfl) h fun i hi => by simp [RCC, hi]

/-- The atoms laid so far: us, the slices of their terms. -/
def raC (a : Atm) (u : Value) : List Value := [.bool a.neg, .string ⟨a.rel.toArray⟩, u]
def rasC (l : List Atm) (us : List Value) : List Value := (l.zip us).flatMap fun p => raC p.1 p.2
theorem rasC_snoc {l : List Atm} {us : List Value} {j : Nat} (hj : j < l.length) (hu : us.length = j) (u : Value) : rasC (l.take (j + 1)) (us ++ [u]) = rasC (l.take j) us ++ raC l[j] u := by
  unfold rasC
  rw [List.take_succ_eq_append_getElem hj, List.zip_append (by simp; omega), List.flatMap_append]; simp
def OwnsT (w : World) (B : Nat) (us : List Value) (l : List Atm) : Prop := us.length ≤ l.length ∧ ∀ i (h : i < us.length) (h' : i < l.length), OwnT w B us[i] l[i].ts
theorem OwnsT.below {w w' : World} {B : Nat} {us : List Value} {l : List Atm} (h : OwnsT w B us l) (hb : Below w.heap.size w w') : OwnsT w' B us l := ⟨h.1, fun i hi hi' => own_belowS (h.2 i hi hi') hb⟩
theorem OwnsT.nil {w : World} {B : Nat} {l : List Atm} : OwnsT w B [] l := ⟨by simp, fun i hi => absurd hi (by simp)⟩
theorem OwnsT.snoc {w : World} {B : Nat} {us : List Value} {l : List Atm} (h : OwnsT w B us l) {u : Value} (hlt : us.length < l.length) (hu : OwnT w B u l[us.length].ts) : OwnsT w B (us ++ [u]) l := by
  refine ⟨by simp; omega, fun i hi hi' => ?_⟩
  by_cases h2 : i < us.length
  · rw [List.getElem_append_left h2]; exact h.2 i h2 hi'
  · have : i = us.length := by simp at hi; omega
    subst this
    simp only [List.getElem_concat_length]
    exact hu
theorem OwnsT.snoc2 {w : World} {B : Nat} {us : List Value} {l : List Atm} (h : OwnsT w B us l) {u : Value} {j : Nat} (hj : us.length = j) (hlt : j < l.length) {ts : List Trm} (he : l[j].ts = ts) (hu : OwnT w B u ts) : OwnsT w B (us ++ [u]) l := by
  subst hj he
  exact h.snoc hlt hu
/-- An append to a row of another kind leaves them. -/
theorem OwnsT.kept {w w' : World} {B : Nat} {us : List Value} {l : List Atm} (h : OwnsT w B us l) {B2 e2 z2 n2 : Nat} {v2 : Value} {x2 : List Value} (h2 : w.ownsRow B2 e2 z2 v2 n2 x2) (he : e2 ≠ 100) (hg : w.grownBy w' v2.ownBlock) : OwnsT w' B us l :=
  ⟨h.1, fun i hi hi' => (h.2 i hi hi').kept hg (own_apart (h.2 i hi hi') h2 (fun e => he e.symm))⟩
theorem OwnsT.far {w w' : World} {B t : Nat} {us : List Value} {l : List Atm} (h : OwnsT w B us l) (hg : w.grownBy w' (some t)) (ht : t < B) : OwnsT w' B us l :=
  ⟨h.1, fun i hi hi' => (h.2 i hi hi').kept hg (.inr (fun e => by have := ((h.2 i hi hi').lt t e).1; omega))⟩
theorem OwnsT.at {w : World} {B B2 : Nat} {us : List Value} {l : List Atm} (h : OwnsT w B us l) (hl : us.length = l.length) {R : Value} {e : TypeId} (hR : w.ownsRow B2 e 3 R l.length (rasC l us)) : ∃ A c, R = .slice A l.length c ∧ RAsAt w A l ∧ l.length ≤ c := by
  have hR' : w.ownsRow B2 e 3 R l.length ((List.range l.length).flatMap fun i => raC (l[i]?.getD default) (us[i]?.getD undef)) := by
    have : rasC l us = (List.range l.length).flatMap fun i => raC (l[i]?.getD default) (us[i]?.getD undef) := by
      have h : ∀ n, n ≤ l.length → rasC (l.take n) (us.take n) = (List.range n).flatMap fun i => raC (l[i]?.getD default) (us[i]?.getD undef) := by
        intro n
        induction n with
        | zero => intro _; simp [rasC]
        | succ n ih =>
          intro hn
          have hlt : n < l.length := by omega
          have hlu : n < us.length := by omega
          rw [List.take_succ_eq_append_getElem hlu, rasC_snoc hlt (by simp; omega), ih (by omega), flat_succ]
          simp [hlt, hlu]
      have := h l.length (Nat.le_refl _)
      have e2 : us.take l.length = us := by rw [← hl, List.take_length]
      rw [List.take_length, e2] at this
      exact this
    rw [← this]; exact hR
  refine own_rowC (C := RAC) (fun _ => rfl) hR' fun i hi => ?_
  have hiu : i < us.length := by omega
  obtain ⟨T, c, hu, ht, _⟩ := (h.2 i hiu hi).at
  refine ⟨T, c, ?_, ht⟩
  simp [raC, hi, hiu, hu]
/-- A rule's box and the result's block keep their cells. -/
theorem three_cells {w w' : World} {v0 v1 : Value} {t : TypeId} {o : Obj} (h : Below (w.heap.size + 1 + 1) ((w.alloc (.cells #[v0, v1] t)).alloc o) w') :
    w'.cell? ⟨w.heap.size, 0, none⟩ = some v0 ∧ w'.cell? ⟨w.heap.size, 1, none⟩ = some v1 ∧ w.heap.size < w'.heap.size ∧ Below w.heap.size w w' := by
  have h2 : Below (w.heap.size + 1) (w.alloc (.cells #[v0, v1] t)) w' := ((Below.refl _ _).alloc (by simp) o).trans (h.mono (by omega))
  refine ⟨(h2.cell (p := ⟨w.heap.size, 0, none⟩) (by simp)).trans (by simp), (h2.cell (p := ⟨w.heap.size, 1, none⟩) (by simp)).trans (by simp), ?_, (below_one w _).trans (h2.mono (by omega))⟩
  have := h2.size
  simp at this
  omega
theorem infoRT : (Try.prog.info? 100).map (fun i => (i.zero, i.size, i.bytes)) = some (some (.agg #[.string ⟨#[]⟩, .int .i64 0]), 2, 24) := by kernel_rfl
theorem infoRA : (Try.prog.info? 98).map (fun i => (i.zero, i.size, i.bytes)) = some (some (.agg #[.bool false, .string ⟨#[]⟩, .slice none 0 0]), 3, 48) := by kernel_rfl
theorem infoRC : (Try.prog.info? 102).map (fun i => (i.zero, i.size, i.bytes)) = some (some (.agg #[.string ⟨#[]⟩, .int .i64 0]), 2, 24) := by kernel_rfl
theorem infoRRs : (Try.prog.info? 56).map (·.size) = some 2 := by kernel_rfl
end Go.Proofs.Ytgeapgbebbapmaa
