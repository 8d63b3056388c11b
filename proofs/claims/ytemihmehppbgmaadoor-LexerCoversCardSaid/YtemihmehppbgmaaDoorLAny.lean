/-
  WALK: lexer.Scan on a text of any length; tokens' cells as a list.
-/
import Derived.Test.YtemihmehppbgmaaDoorLw4
import Derived.Test.YtemihmehppbgmaaDoorLex6
namespace Go.Proofs.YtemihmehppbgmaaDoor
open Go.RowKit

set_option maxRecDepth 100000 in
theorem lex_scan_any (s : ByteArray) (w : World) (hE : EnvL w) {x : List Tok × Int × Int} (hx : scanL s.data.toList = x) :
    Calls Tryd.prog 11 #[.string s] w (RetS w x) := by
  by_cases h : s.size ≤ 100000
  · exact lex_scan s w hE h hx
  · have hll : s.data.toList.length = s.size := by simp
    have hbig : 65536 < s.size := by omega
    unfold scanL at hx
    rw [hll, if_pos hbig] at hx
    subst hx
    clear hE hll h
    go_enter Tryd.func11, Tryd.ntmps11
    go_wp2
    go_ret3
    exact ⟨none, 0, rfl, fun h => absurd h (by simp), by simp, Below.refl _ _⟩

theorem TokAt.flat {w : World} {b o : Nat} {l : List Tok} (h : TokAt w (some ⟨b, o, none⟩) l) : ∀ (j : Nat) (u : Value), (flatT l)[j]? = some u → w.cell? ⟨b, o + j, none⟩ = some u := by
  intro j u hj
  have hjl : j < (flatT l).length := (List.getElem?_eq_some_iff.1 hj).1
  rw [flatT_length] at hjl
  obtain ⟨i, r, hi, hr, rfl⟩ : ∃ i r, i < l.length ∧ r < 6 ∧ j = i * 6 + r := ⟨j / 6, j % 6, by omega, by omega, by omega⟩
  obtain ⟨b', o', e, hc⟩ := h (by omega)
  injection e with e
  injection e with e1 e2
  subst e1 e2
  obtain ⟨d0, d1, d2, d3, d4, d5⟩ := hc i hi
  obtain ⟨e0, e1, e2, e3, e4, e5⟩ := flatT_get l i hi
  rw [← Nat.add_assoc]
  match r, hr with
  | 0, _ => rw [Nat.add_zero] at *; rw [d0, ← e0]; exact hj
  | 1, _ => rw [d1, ← e1]; exact hj
  | 2, _ => rw [d2, ← e2]; exact hj
  | 3, _ => rw [d3, ← e3]; exact hj
  | 4, _ => rw [d4, ← e4]; exact hj
  | 5, _ => rw [d5, ← e5]; exact hj
theorem TokAt.at {w : World} {A : Option Addr} {l : List Tok} (h : TokAt w A l) (hp : 0 < l.length) : ∃ b o, A = some ⟨b, o, none⟩ := by
  obtain ⟨b, o, e, _⟩ := h hp
  exact ⟨b, o, e⟩
theorem TokAt.cells {w : World} {b o : Nat} {l : List Tok} (h : TokAt w (some ⟨b, o, none⟩) l) {k : Nat} (hk : k < l.length) {x : Tok} (hx : l[k] = x) :
    w.cell? ⟨b, o + k * 6, none⟩ = some (.int .i64 x.k) ∧ w.cell? ⟨b, o + k * 6 + 1, none⟩ = some (.string ⟨x.t.toArray⟩) ∧ w.cell? ⟨b, o + k * 6 + 2, none⟩ = some (.int .i64 x.v.k) ∧ w.cell? ⟨b, o + k * 6 + 3, none⟩ = some (.int .i64 x.v.n) ∧ w.cell? ⟨b, o + k * 6 + 4, none⟩ = some (.string x.v.s) ∧ w.cell? ⟨b, o + k * 6 + 5, none⟩ = some (.int .i64 x.a) := by
  obtain ⟨b', o', e, hc⟩ := h (by omega)
  injection e with e
  injection e with e1 e2
  subst e1 e2 hx
  exact hc k hk
end Go.Proofs.YtemihmehppbgmaaDoor
