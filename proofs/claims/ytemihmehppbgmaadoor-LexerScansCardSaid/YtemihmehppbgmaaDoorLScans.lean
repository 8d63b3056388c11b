/-
  WALK: ordinallaw18.LexerScans.
-/
import Derived.Test.YtemihmehppbgmaaDoorAwake18
import Derived.Test.YtemihmehppbgmaaDoorLr5
import Derived.Test.YtemihmehppbgmaaDoorLAny
import Derived.Test.YtemihmehppbgmaaDoorKit3
namespace Go.Proofs.YtemihmehppbgmaaDoor
open Go.RowKit

theorem guardTokR : Tryd.prog.eqGuardType Tryd.prog.depth 33 = false := by kernel_rfl
theorem heldTokR : Tryd.prog.stoodInHeld 33 = false := by kernel_rfl
theorem structTokR : Tryd.prog.underlying 33 = some (.struct (Tryd.prog.fieldsOf 33)) := by kernel_rfl
theorem eq_tokR (k : Int) (s : ByteArray) (v : V) (a : Int) (w : World) :
    (Op.equalIn 10000 33 (.agg #[.int .i64 k, .string s, .int .i64 v.k, .int .i64 v.n, .string v.s, .int .i64 a]) (.agg #[.int .i64 k, .string s, .int .i64 v.k, .int .i64 v.n, .string v.s, .int .i64 a])).run Tryd.prog w = .ok true w := by
  rw [run_equalIn_agg w 9999 _ _ _ structTokR heldTokR]
  simp [go_sem, Tryd.underlying31, Tryd.underlying3, Tryd.underlying2, Tryd.underlying9]

set_option maxRecDepth 100000 in
theorem law_of18 (k : Int) (s : ByteArray) (v : V) (a : Int) (w : World) :
    Calls Tryd.prog 13 #[.agg #[.int .i64 k, .string s, .int .i64 v.k, .int .i64 v.n, .string v.s, .int .i64 a]] w fun e w' => e = .returned (.agg #[.int .i64 k, .string s, .int .i64 v.k, .int .i64 v.n, .string v.s, .int .i64 a]) ∧ Below w.heap.size w w' := by
  go_enter Tryd.func13, Tryd.ntmps13
  go_wp2
  go_returns
  exact ⟨rfl, below_two _ _ _⟩

set_option maxRecDepth 100000 in
set_option maxHeartbeats 2000000 in
theorem law_lscans (s : ByteArray) (w : World) (hE : EnvL w) :
    Calls Tryd.prog 3 #[.string s] w fun e w' => e = .returned (.bool true) ∧ Below w.heap.size w w' := by
  have HA := fun W (h : Below w.heap.size w W) => hid (awake18 W (hE.below h))
  have k0 := Below.refl w.heap.size w
  by_cases hb : 1000 < s.size
  · clear hE
    go_enter Tryd.func3, Tryd.ntmps3
    go_wp2_with fail
    refine (HA _ k0).out.mono ?_
    rintro e w3 ⟨rfl, k3⟩
    clear HA
    go_wp2
    go_ret
    exact ⟨rfl, k3⟩
  · obtain ⟨⟨ts, q, e⟩, hx⟩ : ∃ x, scanL s.data.toList = x := ⟨_, rfl⟩
    have H1 := fun W (h : Below w.heap.size w W) => hid (lex_scan s W (hE.below h) (by omega) hx)
    have H2 := fun W => hid (ref_scan s W (by omega) hx)
    have hn : ts.length ≤ 1001 := by
      by_cases he : e = 0
      · subst he
        obtain ⟨n, h1, h2⟩ := ok_ne hx
        have : s.data.toList.length = s.size := by simp
        omega
      · rw [scanL_err hx he]; simp
    obtain ⟨N, hN⟩ : ∃ N, ts.length = N := ⟨_, rfl⟩
    have HN := hid hN
    rw [hN] at hn
    clear hE hx hN
    go_enter Tryd.func3, Tryd.ntmps3
    go_wp2_with fail
    refine (H1 _ k0).out.mono ?_
    rintro e1 w1 ⟨A, c, rfl, hTA, hcA, k1⟩
    rw [HN.out]
    replace hcA : ts.length ≤ c := hcA
    rw [HN.out] at hcA
    clear H1
    go_wp2_with fail
    refine (H2 _).out.mono ?_
    rintro e2 w2 ⟨B, c2, rfl, hTB, hcB, b2⟩
    have k2 := k1.trans (b2.mono k1.size)
    rw [HN.out]
    replace hcB : ts.length ≤ c2 := hcB
    rw [HN.out] at hcB
    have HTA := hid (hTA.below b2)
    have HTB := hid hTB
    clear H2 hTA hTB b2 k1
    go_wp2_with fail
    go_loopw [43] (fun i wr => ∃ k : Nat, k ≤ N ∧ i = .int .i64 k ∧ Below w2.heap.size w2 wr) (fun i _ => N - (intOf i).toNat)
    case atStart => exact ⟨0, by omega, rfl, Below.refl _ _⟩
    case round =>
      obtain ⟨k, hk, rfl, hbel⟩ := hrel
      by_cases hlt : k < N
      · obtain ⟨x, hx⟩ : ∃ x, ts[k]'(by rw [HN.out]; exact hlt) = x := ⟨_, rfl⟩
        obtain ⟨ba, oa, rfl⟩ := HTA.out.at (by rw [HN.out]; omega)
        obtain ⟨bb, ob, rfl⟩ := HTB.out.at (by rw [HN.out]; omega)
        obtain ⟨a0, a1, a2, a3, a4, a5⟩ := (HTA.out.below hbel).cells (by rw [HN.out]; exact hlt) hx
        obtain ⟨d0, d1, d2, d3, d4, d5⟩ := (HTB.out.below hbel).cells (by rw [HN.out]; exact hlt) hx
        have EQ := eq_tokR x.k ⟨x.t.toArray⟩ x.v x.a
        have GV := guardTokR
        have H1 := fun p : BelowBy wr => hid (law_of18 x.k ⟨x.t.toArray⟩ x.v x.a p.to)
        replace a0 := fun p : BelowBy wr => by_cell a0 p
        replace a1 := fun p : BelowBy wr => by_cell a1 p
        replace a2 := fun p : BelowBy wr => by_cell a2 p
        replace a3 := fun p : BelowBy wr => by_cell a3 p
        replace a4 := fun p : BelowBy wr => by_cell a4 p
        replace a5 := fun p : BelowBy wr => by_cell a5 p
        replace d0 := fun p : BelowBy wr => by_cell d0 p
        replace d1 := fun p : BelowBy wr => by_cell d1 p
        replace d2 := fun p : BelowBy wr => by_cell d2 p
        replace d3 := fun p : BelowBy wr => by_cell d3 p
        replace d4 := fun p : BelowBy wr => by_cell d4 p
        replace d5 := fun p : BelowBy wr => by_cell d5 p
        clear hx
        go_wp2_with fail
        refine wp_region_below (by kernel_rfl) (by kernel_rfl) ?_
        repeat (go_big_quiet_step (first | with_reducible exact calls_by (H1 _).out))
        refine wpQuiet_nil ?_
        rintro _ ⟨⟨wq, kq⟩, rfl⟩
        go_wp2
        go_roundw
        case rel => exact ⟨k + 1, by omega, by go_num, hbel.trans (kq.mono hbel.size)⟩
        case measure => simp [intOf]; omega
      · have hkn : k = N := by omega
        have k5 := k2.trans (hbel.mono k2.size)
        subst hkn
        clear hbel HTA HTB
        go_wp2_with fail
        refine (HA _ k5).out.mono ?_
        rintro e3 w6 ⟨rfl, b6⟩
        have k6 := k5.trans (b6.mono k5.size)
        clear HA
        go_wp2
        go_ret
        exact ⟨rfl, k6⟩
end Go.Proofs.YtemihmehppbgmaaDoor
