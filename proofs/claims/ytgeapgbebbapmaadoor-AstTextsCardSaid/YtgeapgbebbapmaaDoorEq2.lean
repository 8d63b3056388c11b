/-
  WALK: ast.equalAtom.
-/
import Derived.Test.YtgeapgbebbapmaaDoorEq1
namespace Go.Proofs.YtgeapgbebbapmaaDoor
open Go.RowKit

theorem bool_of (p : Prop) : ∃ b : Bool, b = true ↔ p := ⟨@decide p (Classical.propDecidable p), by simp⟩

set_option maxRecDepth 100000 in
set_option maxHeartbeats 4000000 in
theorem eq_atom (a a' : Atm) (T T' : Option Addr) (c c' : Nat) (w : World) (h : TrmsAt w T a.ts) (h' : TrmsAt w T' a'.ts) (hm : a.ts.length ≤ 9223372036854775807) (hm' : a'.ts.length ≤ 9223372036854775807) {b : Bool} (hb : b = true ↔ a = a') :
    Calls Tryd.prog 68 #[.agg #[.bool a.neg, .string ⟨a.rel.toArray⟩, .slice T a.ts.length c], .agg #[.bool a'.neg, .string ⟨a'.rel.toArray⟩, .slice T' a'.ts.length c']] w fun e w' => e = .returned (.bool b) ∧ Below w.heap.size w w' := by
  obtain ⟨ng, rl, ts⟩ := a
  obtain ⟨ng', rl', ts'⟩ := a'
  simp only at h h' hm hm' ⊢
  obtain ⟨bt, hbt⟩ := bool_of (ts = ts')
  have CT := fun W (k : Below w.heap.size w W) => hid (eq_terms T T' c c' ts ts' W (h.below k) (h'.below k) hm hm' hbt)
  have HB := hid hb
  have HBT := hid hbt
  obtain ⟨Z, hZ, hZd⟩ : ∃ Y : ByteArray, (⟨rl.toArray⟩ : ByteArray) = Y ∧ Y.data.toList = rl := ⟨_, rfl, rfl⟩
  obtain ⟨Z', hZ', hZd'⟩ : ∃ Y : ByteArray, (⟨rl'.toArray⟩ : ByteArray) = Y ∧ Y.data.toList = rl' := ⟨_, rfl, rfl⟩
  rw [hZ, hZ']
  have hzz : (Z.toList == Z'.toList) = true ↔ rl = rl' := by rw [eqS (Lib.toList_data Z) (Lib.toList_data Z'), hZd, hZd']; exact decide_eq_true_iff
  obtain ⟨n, hn⟩ : ∃ n, ts.length = n := ⟨_, rfl⟩
  obtain ⟨n', hn'⟩ : ∃ n, ts'.length = n := ⟨_, rfl⟩
  rw [hn, hn'] at CT ⊢
  have HB0 : Hid (Below (w.heap.size + 2) ((w.alloc (.cells #[.bool ng, .string Z, .slice T n c] 60)).alloc (.cells #[.bool ng', .string Z', .slice T' n' c'] 60)) ((w.alloc (.cells #[.bool ng, .string Z, .slice T n c] 60)).alloc (.cells #[.bool ng', .string Z', .slice T' n' c'] 60))) := hid (Below.refl _ _)
  obtain ⟨b0, b1, bsz, hbel⟩ := two_blocks19 HB0.out
  have r0 := coh b0 (o := 0) rfl
  have r1 := coh b0 (o := 1) rfl
  have r2 := coh b0 (o := 2) rfl
  have s0 := coh b1 (o := 0) rfl
  have s1 := coh b1 (o := 1) rfl
  have s2 := coh b1 (o := 2) rfl
  have l1 : w.heap.size + 1 < ((w.alloc (.cells #[.bool ng, .string Z, .slice T n c] 60)).alloc (.cells #[.bool ng', .string Z', .slice T' n' c'] 60)).heap.size := by omega
  clear b0 b1 bsz hb hbt h h' hm hm' hn hn' hZ hZ' hZd hZd'
  have hfin : ∀ x : Bool, (x = true ↔ (ng = ng' ∧ rl = rl' ∧ ts = ts')) → x = b := fun x hx => by
    rw [Bool.eq_iff_iff, hx, HB.out]
    constructor
    · rintro ⟨rfl, rfl, rfl⟩; rfl
    · intro h; cases h; exact ⟨rfl, rfl, rfl⟩
  by_cases h1 : ng = ng'
  · subst h1
    have e1 : (ng == ng) = true := by simp
    by_cases h2 : rl = rl'
    · have e2 := hzz.2 h2
      have hx := hfin bt ⟨fun h => ⟨rfl, h2, HBT.out.1 h⟩, fun h => HBT.out.2 h.2.2⟩
      subst hx
      clear hfin hzz h2 HB HBT
      go_enter Tryd.func68, Tryd.ntmps68
      go_wp2_with fail
      refine (CT _ hbel).out.mono ?_
      rintro e w1 ⟨rfl, b1⟩
      have hb1 := hbel.trans (b1.mono hbel.size)
      clear CT b1
      go_wp2
      go_ret
      exact ⟨by simp, hb1⟩
    · have e2 : (Z.toList == Z'.toList) = false := (Bool.not_eq_true _).mp (fun h => h2 (hzz.1 h))
      have hx := hfin false ⟨fun h => absurd h (by decide), fun h => absurd h.2.1 h2⟩
      subst hx
      clear hfin hzz h2 HB HBT CT
      go_enter Tryd.func68, Tryd.ntmps68
      go_wp2
      go_ret
      exact ⟨rfl, hbel⟩
  · have e1 : (ng == ng') = false := by simpa using h1
    have hx := hfin false ⟨fun h => absurd h (by decide), fun h => absurd h.1 h1⟩
    subst hx
    clear hfin hzz h1 HB HBT CT
    go_enter Tryd.func68, Tryd.ntmps68
    go_wp2
    go_ret
    exact ⟨rfl, hbel⟩
end Go.Proofs.YtgeapgbebbapmaaDoor
