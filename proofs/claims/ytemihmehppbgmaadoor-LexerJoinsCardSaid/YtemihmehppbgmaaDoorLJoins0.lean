/-
  WALK: ordinallaw18.LexerJoins.
-/
import Derived.Test.YtemihmehppbgmaaDoorAwake18
import Derived.Test.YtemihmehppbgmaaDoorLAny
import Derived.Test.YtemihmehppbgmaaDoorText
import Derived.ArgAppend
import Derived.Deep.QuietTactic
namespace Go.Proofs.YtemihmehppbgmaaDoor
open Go.RowKit

set_option maxRecDepth 100000 in
set_option maxHeartbeats 2000000 in
theorem lj_err1 (s t : ByteArray) (w : World) (hE : EnvL w) {ts us : List Tok} {q1 e1 q2 e2 : Int} (hx1 : scanL s.data.toList = (ts, q1, e1)) (hx2 : scanL t.data.toList = (us, q2, e2)) (h1 : e1 ≠ 0) :
    Calls Tryd.prog 5 #[.string s, .string t] w fun e w' => e = .returned (.bool true) ∧ Below w.heap.size w w' := by
  have b1 : (e1 != 0) = true := by simpa using h1
  have HA := fun W (h : Below w.heap.size w W) => hid (awake18 W (hE.below h))
  have H1 := fun W (h : Below w.heap.size w W) => hid (lex_scan_any s W (hE.below h) hx1)
  have H2 := fun W (h : Below w.heap.size w W) => hid (lex_scan_any t W (hE.below h) hx2)
  have k0 := Below.refl w.heap.size w
  clear hx1 hx2 hE h1
  obtain ⟨z, hz⟩ : ∃ z, wrap64 ((s.size : Int) + t.size) = z := ⟨_, rfl⟩
  by_cases hbz : 1000 < z
  · go_enter Tryd.func5, Tryd.ntmps5
    go_wp2_with fail
    refine (H1 _ k0).out.mono ?_
    rintro e w1 ⟨A, c, rfl, hTA, hcA, k1⟩
    clear H1
    go_wp2_with fail
    refine (H2 _ k1).out.mono ?_
    rintro e w2 ⟨A2, c2, rfl, hTB, hcB, b2⟩
    have k2 := k1.trans (b2.mono k1.size)
    clear H2 k1
    go_wp2_with fail
    all_goals
      refine (HA _ k2).out.mono ?_
      rintro e w3 ⟨rfl, b3⟩
      have k3 := k2.trans (b3.mono k2.size)
      clear HA
      go_wp2
      go_ret
      exact ⟨rfl, k3⟩
  · go_enter Tryd.func5, Tryd.ntmps5
    go_wp2_with fail
    refine (H1 _ k0).out.mono ?_
    rintro e w1 ⟨A, c, rfl, hTA, hcA, k1⟩
    clear H1
    go_wp2_with fail
    refine (H2 _ k1).out.mono ?_
    rintro e w2 ⟨A2, c2, rfl, hTB, hcB, b2⟩
    have k2 := k1.trans (b2.mono k1.size)
    clear H2 k1
    go_wp2_with fail
    all_goals
      refine (HA _ k2).out.mono ?_
      rintro e w3 ⟨rfl, b3⟩
      have k3 := k2.trans (b3.mono k2.size)
      clear HA
      go_wp2
      go_ret
      exact ⟨rfl, k3⟩

set_option maxRecDepth 100000 in
set_option maxHeartbeats 2000000 in
theorem lj_err2 (s t : ByteArray) (w : World) (hE : EnvL w) {ts us : List Tok} {q1 q2 e2 : Int} (hx1 : scanL s.data.toList = (ts, q1, 0)) (hx2 : scanL t.data.toList = (us, q2, e2)) (h2 : e2 ≠ 0) :
    Calls Tryd.prog 5 #[.string s, .string t] w fun e w' => e = .returned (.bool true) ∧ Below w.heap.size w w' := by
  have b2 : (e2 != 0) = true := by simpa using h2
  obtain ⟨n, hn, hnl⟩ := ok_ne hx1
  have HN := hid hn
  have HA := fun W (h : Below w.heap.size w W) => hid (awake18 W (hE.below h))
  have H1 := fun W (h : Below w.heap.size w W) => hid (lex_scan_any s W (hE.below h) hx1)
  have H2 := fun W (h : Below w.heap.size w W) => hid (lex_scan_any t W (hE.below h) hx2)
  have k0 := Below.refl w.heap.size w
  clear hx1 hx2 hE h2 hn hnl
  obtain ⟨z, hz⟩ : ∃ z, wrap64 ((s.size : Int) + t.size) = z := ⟨_, rfl⟩
  by_cases hbz : 1000 < z
  · go_enter Tryd.func5, Tryd.ntmps5
    go_wp2_with fail
    refine (H1 _ k0).out.mono ?_
    rintro e w1 ⟨A, c, rfl, hTA, hcA, k1⟩
    rw [HN.out]
    clear H1
    go_wp2_with fail
    refine (H2 _ k1).out.mono ?_
    rintro e w2 ⟨A2, c2, rfl, hTB, hcB, b2⟩
    have k2 := k1.trans (b2.mono k1.size)
    clear H2 k1
    go_wp2_with fail
    all_goals
      refine (HA _ k2).out.mono ?_
      rintro e w3 ⟨rfl, b3⟩
      have k3 := k2.trans (b3.mono k2.size)
      clear HA
      go_wp2
      go_ret
      exact ⟨rfl, k3⟩
  · go_enter Tryd.func5, Tryd.ntmps5
    go_wp2_with fail
    refine (H1 _ k0).out.mono ?_
    rintro e w1 ⟨A, c, rfl, hTA, hcA, k1⟩
    rw [HN.out]
    clear H1
    go_wp2_with fail
    refine (H2 _ k1).out.mono ?_
    rintro e w2 ⟨A2, c2, rfl, hTB, hcB, b2⟩
    have k2 := k1.trans (b2.mono k1.size)
    clear H2 k1
    go_wp2_with fail
    all_goals
      refine (HA _ k2).out.mono ?_
      rintro e w3 ⟨rfl, b3⟩
      have k3 := k2.trans (b3.mono k2.size)
      clear HA
      go_wp2
      go_ret
      exact ⟨rfl, k3⟩

end Go.Proofs.YtemihmehppbgmaaDoor
