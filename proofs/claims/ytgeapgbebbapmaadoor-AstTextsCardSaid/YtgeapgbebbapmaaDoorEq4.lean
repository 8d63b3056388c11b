/-
  WALK: ast.equalRule.
-/
import Derived.Test.YtgeapgbebbapmaaDoorEq3
namespace Go.Proofs.YtgeapgbebbapmaaDoor
open Go.RowKit

set_option maxRecDepth 100000 in
set_option maxHeartbeats 4000000 in
theorem eq_rule (a a' : Rul) (T T' U U' : Option Addr) (c c' d d' : Nat) (w : World) (h : AtmsAt w T a.atoms) (h' : AtmsAt w T' a'.atoms) (k : CndsAt w U a.conds) (k' : CndsAt w U' a'.conds) (m1 : a.atoms.length ≤ 9223372036854775807) (m2 : a'.atoms.length ≤ 9223372036854775807) (m3 : a.conds.length ≤ 9223372036854775807) (m4 : a'.conds.length ≤ 9223372036854775807) {b : Bool} (hb : b = true ↔ a = a') :
    Calls Tryd.prog 43 #[.agg #[.slice T a.atoms.length c, .slice U a.conds.length d], .agg #[.slice T' a'.atoms.length c', .slice U' a'.conds.length d']] w fun e w' => e = .returned (.bool b) ∧ Below w.heap.size w w' := by
  obtain ⟨ts, cs⟩ := a
  obtain ⟨ts', cs'⟩ := a'
  simp only at h h' k k' m1 m2 m3 m4 ⊢
  obtain ⟨bt, hbt⟩ := bool_of (ts = ts')
  obtain ⟨bc, hbc⟩ := bool_of (cs = cs')
  have CT := fun W (g : Below w.heap.size w W) => hid (eq_atoms T T' c c' ts ts' W (h.below g) (h'.below g) m1 m2 hbt)
  have CC := fun W (g : Below w.heap.size w W) => hid (eq_conds U U' d d' cs cs' W (k.below g) (k'.below g) m3 m4 hbc)
  have hfin : ∀ x : Bool, (x = true ↔ (bt = true ∧ bc = true)) → x = b := fun x hx => by
    rw [Bool.eq_iff_iff, hx, hb, hbt, hbc]
    constructor
    · rintro ⟨rfl, rfl⟩; rfl
    · intro h; cases h; exact ⟨rfl, rfl⟩
  obtain ⟨n, hn⟩ : ∃ n, ts.length = n := ⟨_, rfl⟩
  obtain ⟨n', hn'⟩ : ∃ n, ts'.length = n := ⟨_, rfl⟩
  obtain ⟨p, hp⟩ : ∃ n, cs.length = n := ⟨_, rfl⟩
  obtain ⟨p', hp'⟩ : ∃ n, cs'.length = n := ⟨_, rfl⟩
  rw [hn, hn'] at CT
  rw [hp, hp'] at CC
  rw [hn, hn', hp, hp']
  have HB0 : Hid (Below (w.heap.size + 2) ((w.alloc (.cells #[.slice T n c, .slice U p d] 49)).alloc (.cells #[.slice T' n' c', .slice U' p' d'] 49)) ((w.alloc (.cells #[.slice T n c, .slice U p d] 49)).alloc (.cells #[.slice T' n' c', .slice U' p' d'] 49))) := hid (Below.refl _ _)
  obtain ⟨b0, b1, bsz, hbel⟩ := two_blocks19 HB0.out
  have r0 := coh b0 (o := 0) rfl
  have s0 := coh b1 (o := 0) rfl
  have l1 : w.heap.size + 1 < ((w.alloc (.cells #[.slice T n c, .slice U p d] 49)).alloc (.cells #[.slice T' n' c', .slice U' p' d'] 49)).heap.size := by omega
  clear b0 b1 bsz hb hbt hbc h h' k k' m1 m2 m3 m4 hn hn' hp hp'
  go_enter Tryd.func43, Tryd.ntmps43
  go_wp2_with fail
  refine (CT _ hbel).out.mono ?_
  rintro e w1 ⟨rfl, b1⟩
  have HB1 := hid (HB0.out.trans (b1.mono (by simp)))
  clear CT b1 HB0 hbel r0 s0 l1
  obtain ⟨b0, b1, bsz, hbel⟩ := two_blocks19 HB1.out
  have r1 := coh b0 (o := 1) rfl
  have s1 := coh b1 (o := 1) rfl
  have l0 : w.heap.size < w1.heap.size := by omega
  have l1 : w.heap.size + 1 < w1.heap.size := by omega
  clear b0 b1 bsz
  cases bt
  · have hx := hfin false (by simp)
    subst hx
    clear hfin CC
    go_wp2
    go_ret
    exact ⟨rfl, hbel⟩
  · have hx := hfin bc (by simp)
    subst hx
    clear hfin
    go_wp2_with fail
    refine (CC _ hbel).out.mono ?_
    rintro e w2 ⟨rfl, b2⟩
    have hb2 := hbel.trans (b2.mono hbel.size)
    clear CC b2
    go_wp2
    go_ret
    exact ⟨rfl, hb2⟩
end Go.Proofs.YtgeapgbebbapmaaDoor
