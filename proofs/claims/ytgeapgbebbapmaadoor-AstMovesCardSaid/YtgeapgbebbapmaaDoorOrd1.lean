/-
  WALK: slices.Clone at keys.
-/
import Derived.Test.YtgeapgbebbapmaaDoorRfs
import Derived.Test.YtgeapgbebbapmaaDoorRenM
import Derived.Test.YtgeapgbebbapmaaDoorRenK
import Derived.Test.YtgeapgbebbapmaaDoorAst10
namespace Go.Proofs.YtgeapgbebbapmaaDoor
open Go.RowKit

/-- A result that is an own row of keys. -/
def RetK (w : World) (l : List Ky) (e : Ending) (w' : World) : Prop := ∃ v, e = .returned v ∧ w'.ownsRow w.heap.size 44 2 v l.length (l.flatMap cellsK) ∧ Below w.heap.size w w'
theorem ky_cells {w : World} {b o : Nat} {l : List Ky} (hc : ∀ i (h : i < l.length), w.cell? ⟨b, o + i * 2, none⟩ = some (.string ⟨l[i].v.toArray⟩) ∧ w.cell? ⟨b, o + i * 2 + 1, none⟩ = some (.bool l[i].desc)) :
    ∀ j u, (l.flatMap cellsK)[j]? = some u → w.cell? (Addr.add ⟨b, o, none⟩ j) = some u := by
  intro j u hu
  have hlen := ren_len (f := cellsK) (k := 2) (fun _ => rfl) l
  have hj : j < l.length * 2 := by rw [← hlen]; exact (List.getElem?_eq_some_iff.1 hu).1
  have hi : j / 2 < l.length := by omega
  have hg := ren_get (f := cellsK) (k := 2) (fun _ => rfl) l (j / 2) (j % 2) hi (by omega)
  have hj2 : j / 2 * 2 + j % 2 = j := by omega
  rw [hj2, hu] at hg
  obtain ⟨c0, c1⟩ := hc (j / 2) hi
  rw [Addr.add_lit]
  have h2 : j % 2 = 0 ∨ j % 2 = 1 := by omega
  rcases h2 with h2 | h2
  · rw [h2] at hg
    have : o + j = o + j / 2 * 2 := by omega
    rw [this, c0]; exact hg.symm ▸ rfl
  · rw [h2] at hg
    have : o + j = o + j / 2 * 2 + 1 := by omega
    rw [this, c1]; exact hg.symm ▸ rfl

set_option maxRecDepth 100000 in
set_option maxHeartbeats 4000000 in
theorem clone_keys (A : Option Addr) (c : Nat) (l : List Ky) (w : World) (h : KysAt w A l) (hm : l.length ≤ 100000) :
    Calls Tryd.prog 50 #[.slice A l.length c] w (RetK w l) := by
  obtain ⟨k0, hk0, hk1, hk2, hk3⟩ := info_parts infoKeyN
  have q22 : ∀ (w : World) (a : Option Addr) (n c n' c' : Nat), (binOp .eql 24 (.slice a n c) (.slice none n' c')).run Tryd.prog w = .ok (.bool a.isNone) w := fun w a n c n' c' => Lib.run_eql_slice_nil w _ _ a n c n' c' Tryd.underlying24
  cases A with
  | none =>
    have hl : l = [] := by
      cases l with
      | nil => rfl
      | cons x xs => obtain ⟨b, o, e, _⟩ := h (by simp); cases e
    subst hl
    clear h hm
    go_enter Tryd.func50, Tryd.ntmps50
    go_wp2
    go_ret
    exact ⟨_, rfl, World.ownsRow_nil _ _ _ _, Below.refl _ _⟩
  | some ad =>
    have hcell : ∀ j u, (l.flatMap cellsK)[j]? = some u → w.cell? (ad.add j) = some u := by
      by_cases hl : l = []
      · subst hl; intro j u hu; simp at hu
      · obtain ⟨b, o, e, hc⟩ := h (List.length_pos_iff.2 hl)
        injection e with e
        subst e
        exact ky_cells hc
    have HC := hid hcell
    have hone : ∀ u ∈ l.flatMap cellsK, u.oneCell' = true := fun u hu => by
      obtain ⟨k, _, hk⟩ := List.mem_flatMap.1 hu
      simp only [cellsK, List.mem_cons, List.not_mem_nil, or_false] at hk
      rcases hk with rfl | rfl <;> rfl
    have HO := hid hone
    have HLEN := hid (ren_len (f := cellsK) (k := 2) (fun _ => rfl) l)
    obtain ⟨n, hn⟩ : ∃ n, l.length = n := ⟨_, rfl⟩
    obtain ⟨xs, hxs⟩ : ∃ x, l.flatMap cellsK = x := ⟨_, rfl⟩
    unfold RetK
    rw [hxs] at HC HO HLEN ⊢
    rw [hn] at hm HLEN ⊢
    clear h hcell hone hn hxs
    go_enter Tryd.func50, Tryd.ntmps50
    go_wp2_with (at_builtin; refine wpList_append_own _ rfl _ _ 24 rfl w.heap.size 44 k0 _ 2 24 Tryd.underlying24 hk0 hk1 hk2 hk3 rfl (by decide) _ _ _ rfl (World.ownsRow_made w #[] 0 (Nat.le_refl _) (Nat.zero_le _) rfl) ad n c xs rfl ?qc1 ?qc2 ?qc3 ?qc4 ?qc5 ?qc6 ?_)
    case qc1 => exact HLEN.out
    case qc2 =>
      intro j u hj
      exact Lib.cell?_alloc_some _ (HC.out j u hj)
    case qc3 => exact HO.out
    case qc4 => unfold maxLen; omega
    case qc5 => omega
    case qc6 => simp
    intro v' w1 hown hgrow hnil
    go_wp2
    go_ret
    refine ⟨v', rfl, by simpa using hown, ?_⟩
    exact ((Below.refl _ w).alloc (Nat.le_refl _) _).grown hgrow (by simp) (by intro k hk; simp [Value.ownBlock] at hk; omega)
end Go.Proofs.YtgeapgbebbapmaaDoor
