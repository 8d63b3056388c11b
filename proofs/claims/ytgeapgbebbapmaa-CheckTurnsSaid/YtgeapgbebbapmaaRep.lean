/-
  SMALL FACTS for the laws that build a query of their own: a query with one of its rules once more, in memory.
-/
import Derived.Test.YtgeapgbebbapmaaRow3
import Derived.Test.YtgeapgbebbapmaaLwU
import Derived.Test.YtgeapgbebbapmaaAwk
namespace Go.Proofs.Ytgeapgbebbapmaa
open Go.RowKit

theorem unupd {d : Nat → Bool} {i j : Nat} (hne : (j == i) = false) (h : upd d i j = false) : d j = false := by
  have : j ≠ i := by simpa using hne
  unfold upd at h
  rwa [if_neg this] at h
theorem upd_self {d : Nat → Bool} {i : Nat} (h : upd d i i = false) : False := by
  unfold upd at h
  rw [if_pos rfl] at h
  cases h
theorem below_none {w w' : World} (hg : w.grownBy w' none) : Below w.heap.size w w' := (Below.refl _ _).grown hg (Nat.le_refl _) (fun _ e => by cases e)
theorem cells_two {w : World} {g : Nat} {a b : Value} {e : TypeId} (h : w.heap[g]? = some (.cells #[a, b] e (0, 0))) : ∀ j u, [a, b][j]? = some u → w.cell? (Addr.add ⟨g, 0, none⟩ j) = some u := by
  intro j u hj
  match j, hj with
  | 0, hj => rw [show Addr.add ⟨g, 0, none⟩ 0 = ⟨g, 0, none⟩ from rfl, cell_res' h]; exact hj
  | 1, hj => rw [show Addr.add ⟨g, 0, none⟩ 1 = ⟨g, 1, none⟩ from rfl, cell_res' h]; exact hj
theorem ones_two (T : Option Addr) (n c : Nat) (T2 : Option Addr) (n2 c2 : Nat) : ∀ u ∈ [Value.slice T n c, Value.slice T2 n2 c2], u.oneCell' = true := by
  intro u hu
  simp only [List.mem_cons, List.not_mem_nil, or_false] at hu
  rcases hu with rfl | rfl <;> rfl
theorem again_wf {q : Qry} {r : Rul} (h : q.wf) (hr : r ∈ q.rules) : (againQ q r).wf := ⟨h.head, h.agg, h.aggVar, fun x hx => by
  rcases List.mem_append.1 hx with hx | hx
  · exact h.rules x hx
  · rw [List.mem_singleton] at hx
    subst hx
    exact h.rules x hr, h.order⟩
theorem again_in {w w' : World} {q : Qry} {A R O : Option Addr} {ch cr co : Nat} (hq : QryIn w q A R O ch cr co) (hb : Below w.heap.size w w') {f : Nat → List Value} (hf : ∀ i, (f i).length = 2) (hC : ∀ i (hi : i < q.rules.length), RulC w q.rules[i] (f i)) {jn : Nat} (hj : jn < q.rules.length)
    {Bs gu cap : Nat} (hown : w'.ownsRow Bs 46 2 (.slice (some ⟨gu, 0, none⟩) (q.rules.length + 1) cap) (q.rules.length + 1) ((List.range q.rules.length).flatMap f ++ f jn)) (hn : q.rules.length < 100) : QryIn w' (againQ q q.rules[jn]) A (some ⟨gu, 0, none⟩) O ch cap co := by
  have hlen : (q.rules ++ [q.rules[jn]]).length = q.rules.length + 1 := by simp
  have hown' : w'.ownsRow Bs 46 2 (.slice (some ⟨gu, 0, none⟩) (q.rules.length + 1) cap) (q.rules ++ [q.rules[jn]]).length ((List.range (q.rules ++ [q.rules[jn]]).length).flatMap (fun i => if i < q.rules.length then f i else f jn)) := by
    rw [hlen, flat_snoc]; exact hown
  obtain ⟨A', c', e1, hrow, hle⟩ := own_rowC (C := RulC) (l := q.rules ++ [q.rules[jn]]) (fun i => by by_cases h : i < q.rules.length <;> simp [h, hf]) hown' (fun i hi => by
    by_cases h : i < q.rules.length
    · rw [if_pos h]
      simp only [List.getElem_append_left h]
      exact (hC i h).below hb
    · rw [if_neg h]
      have : i = q.rules.length := by omega
      subst this
      simp only [List.getElem_concat_length]
      exact (hC jn hj).below hb)
  injection e1 with e1 e2 e3
  subst e1 e3
  refine ⟨hq.head.below hb, rulsC.2 hrow, hq.order.below hb, hq.lh, ?_, hq.lo, hq.mh, ?_, hq.mo⟩
  · exact hle
  · show (q.rules ++ [q.rules[jn]]).length ≤ _
    omega
theorem checkT_rules_le (q : Qry) (S : List Sch) : (checkT q S).2.rules.length ≤ q.rules.length := by
  unfold checkT
  repeat' split
  all_goals simp [typesOf]
  omega
theorem checkT_head_le (q : Qry) (S : List Sch) : (checkT q S).2.head.length ≤ q.head.length := by
  unfold checkT
  repeat' split
  all_goals simp [typesOf]
theorem again_res {q : Qry} {S : List Sch} {r : Rul} {e0 : Int} {ty : Typ} (hx : checkT q S = (e0, ty)) (hr : r ∈ q.rules) (hl : q.rules.length < 3) (ha : q.agg = 0) : ∃ rl, checkT (againQ q r) S = (e0, ⟨ty.head, rl⟩) ∧ (e0 = 0 → rl.length = ty.rules.length + 1) ∧ ty.rules.length < 3 := by
  obtain ⟨h1, h2, h3⟩ := checkT_again (S := S) hr hl ha
  have h4 := checkT_rules_le q S
  rw [hx] at h1 h2 h3 h4
  simp only at h1 h2 h3 h4
  exact ⟨(checkT (againQ q r) S).2.rules, by rw [← h2, ← h1], h3, by omega⟩
end Go.Proofs.Ytgeapgbebbapmaa
