/-
  SMALL FACTS for the walk of the law's want: rows that grow.
-/
import Derived.Test.YtgeapgbebbapmaaRefV
import Derived.Test.YtgeapgbebbapmaaRefR
import Derived.Test.YtgeapgbebbapmaaLwRule
import Derived.Test.YtgeapgbebbapmaaLwT
namespace Go.Proofs.Ytgeapgbebbapmaa
open Go.RowKit

/-- What want returns. -/
def RetW (w : World) (x : Int × Typ) (e : Ending) (w' : World) : Prop := ∃ H R ch cr, e = .returned (.tuple #[.slice H x.2.head.length ch, .slice R x.2.rules.length cr, .int .i64 x.1]) ∧ KdsAt w' H x.2.head ∧ VrssAt w' R x.2.rules ∧ Below w.heap.size w w'
theorem UsR.push {w : World} {B : Nat} {us : List Value} {Ls : List Env} (h : UsR w B us Ls) (hl : us.length = Ls.length) {u : Value} {l : Env} (hu : w.ownsRow B 66 2 u l.length (vrC l)) : UsR w B (us ++ [u]) (Ls ++ [l]) := by
  refine ⟨by simp; omega, fun i hi hi' => ?_⟩
  by_cases h2 : i < us.length
  · rw [List.getElem_append_left h2]
    simp only [List.getElem_append_left (show i < Ls.length by omega)]
    exact h.2 i h2 (by omega)
  · have : i = us.length := by simp at hi; omega
    subst this
    simp only [List.getElem_concat_length]
    have e : (Ls ++ [l])[us.length]'hi' = l := by simp [hl]
    rw [e]; exact hu
theorem UsR.mono {w : World} {B B' : Nat} {us : List Value} {Ls : List Env} (h : UsR w B' us Ls) (hB : B ≤ B') : UsR w B us Ls := ⟨h.1, fun i hi hi' => own_mono (h.2 i hi hi') hB⟩
theorem inferAll_y {S : List Sch} {l : List Rul} : glueA [] (inferAll S (l.drop 0)) = inferAll S l := glueA_nil S l
theorem badB_kinds {S : List Sch} (h : badB S = false) : ∀ s ∈ S, ∀ k ∈ s.kinds, k ≠ 0 := by
  unfold badB at h
  simp only [Bool.not_eq_false', Bool.and_eq_true, decide_eq_true_eq] at h
  intro s hs k hk h0
  have h1 := List.all_eq_true.1 h.1 s hs
  unfold schOk at h1
  subst h0
  simp at h1
  have := h1.2.2 0 hk
  revert this
  decide
theorem infoI1 : (Try.prog.info? 3).map (fun i => (i.zero, i.size, i.bytes)) = some (some (.int .i64 0), 1, 8) := by kernel_rfl
/-- The heads' kinds. -/
def hdK (E : Env) (l : List Str) : List Value := (l.map (kindE E)).map (.int .i64)
theorem hdK_succ {E : Env} {l : List Str} {k : Nat} (h : k < l.length) : hdK E (l.take (k + 1)) = hdK E (l.take k) ++ [.int .i64 (kindE E l[k])] := by
  unfold hdK
  rw [List.take_succ_eq_append_getElem h, List.map_append, List.map_append]; rfl
end Go.Proofs.Ytgeapgbebbapmaa
