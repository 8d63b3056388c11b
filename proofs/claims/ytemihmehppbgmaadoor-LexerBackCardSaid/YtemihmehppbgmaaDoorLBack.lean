/-
  WALK: ordinallaw18.LexerBack.
-/
import Derived.Test.YtemihmehppbgmaaDoorAwake18
import Derived.Test.YtemihmehppbgmaaDoorLAny
import Derived.Test.YtemihmehppbgmaaDoorLex7
import Derived.Test.YtemihmehppbgmaaDoorOpenB
import Derived.Deep.QuietTactic
namespace Go.Proofs.YtemihmehppbgmaaDoor
open Go.RowKit

theorem arr_list' (l : List UInt8) : (⟨l.toArray⟩ : ByteArray).data.toList = l := by simp
theorem arr_size (l : List UInt8) : (⟨l.toArray⟩ : ByteArray).size = l.length := by simp [ByteArray.size]
theorem cat3_list (T : ByteArray) (a : List UInt8) (g : ByteArray) : (T ++ ((⟨a.toArray⟩ : ByteArray) ++ g)).data.toList = T.data.toList ++ (a ++ g.data.toList) := by
  simp [ByteArray.data_append]

set_option maxRecDepth 100000 in
set_option maxHeartbeats 2000000 in
theorem lb_err (s : ByteArray) (G : Option Addr) (gl : List UInt8) (cg : Nat) (w : World) (hE : EnvL w) {ts : List Tok} {q1 e1 : Int} (hx1 : scanL s.data.toList = (ts, q1, e1)) (h1 : 1000 < s.size ∨ e1 ≠ 0) :
    Calls Tryd.prog 4 #[.string s, .slice G gl.length cg] w fun e w' => e = .returned (.bool true) ∧ Below w.heap.size w w' := by
  have HA := fun W (h : Below w.heap.size w W) => hid (awake18 W (hE.below h))
  have H1 := fun W (h : Below w.heap.size w W) => hid (lex_scan_any s W (hE.below h) hx1)
  have k0 := Below.refl w.heap.size w
  by_cases hb : 1000 < s.size
  · clear hx1 hE h1
    go_enter Tryd.func4, Tryd.ntmps4
    go_wp2_with fail
    refine (H1 _ k0).out.mono ?_
    rintro e w1 ⟨A, c, rfl, hTA, hcA, k1⟩
    clear H1
    go_wp2_with fail
    all_goals
      refine (HA _ k1).out.mono ?_
      rintro e w3 ⟨rfl, b3⟩
      have k3 := k1.trans (b3.mono k1.size)
      clear HA
      go_wp2
      go_ret
      exact ⟨rfl, k3⟩
  · have b1 : (e1 != 0) = true := by simp; omega
    have hsz : s.size ≤ 1000 := by omega
    clear hx1 hE h1
    go_enter Tryd.func4, Tryd.ntmps4
    go_wp2_with fail
    refine (H1 _ k0).out.mono ?_
    rintro e w1 ⟨A, c, rfl, hTA, hcA, k1⟩
    clear H1
    go_wp2_with fail
    all_goals
      refine (HA _ k1).out.mono ?_
      rintro e w3 ⟨rfl, b3⟩
      have k3 := k1.trans (b3.mono k1.size)
      clear HA
      go_wp2
      go_ret
      exact ⟨rfl, k3⟩

set_option maxRecDepth 100000 in
set_option maxHeartbeats 2000000 in
theorem lb_main (s : ByteArray) (G : Option Addr) (gl : List UInt8) (cg : Nat) (hgl : gl.length ≤ 9223372036854775807) (w : World) (hG : BytAt w G gl) (hE : EnvL w) {ts : List Tok} {q1 : Int} (hx1 : scanL s.data.toList = (ts, q1, 0)) (hs : s.size ≤ 1000) :
    Calls Tryd.prog 4 #[.string s, .slice G gl.length cg] w fun e w' => e = .returned (.bool true) ∧ Below w.heap.size w w' := by
  have HA := fun W (h : Below w.heap.size w W) => hid (awake18 W (hE.below h))
  have H1 := fun W (h : Below w.heap.size w W) => hid (lex_scan_any s W (hE.below h) hx1)
  have k0 := Below.refl w.heap.size w
  have hls : s.data.toList.length = s.size := by simp
  obtain ⟨n, hn, hnl⟩ := ok_ne hx1
  rw [hls] at hnl
  obtain ⟨js, hj, hjl, hjn⟩ := scanL_back hx1 (by omega) gl
  have htl : ∀ k (h : k < ts.length), ts[k].t.length ≤ 1000 := fun k h => by
    have := tok_le (scanL_ok hx1).1 h
    omega
  have H2 := fun W (h : Below w.heap.size w W) (T : ByteArray) (hT : T.data.toList = joinT ts (gapsL gl)) => hid (lex_scan_any T W (hE.below h) (hT ▸ hj))
  have HN := hid hn
  have HJ := hid (hjl.trans hn)
  have HJN := hid hjn
  have HS := hid (fun k (h : k < ts.length) => joinT_snoc ts (gapsL gl) k h)
  have HGI := hid (gapsL_in gl)
  have HGO := hid (gapsL_out gl)
  have H0 : Hid ((⟨#[]⟩ : ByteArray).data.toList = joinT (ts.take 0) (gapsL gl)) := hid (by rw [List.take_zero, joinT_nil])
  have HTL := hid htl
  clear hx1 hE hls hn hj hjl hjn htl
  go_enter Tryd.func4, Tryd.ntmps4
  go_wp2_with fail
  refine (H1 _ k0).out.mono ?_
  rintro e w1 ⟨A, c, rfl, hTA, hcA, k1⟩
  rw [HN.out]
  clear H1
  have hcA1 : n + 1 ≤ c := by rw [← HN.out]; exact hcA
  obtain ⟨b, o, rfl⟩ := hTA.at (by rw [HN.out]; omega)
  have HTA := hid hTA
  clear hTA hcA
  go_wp2_with fail
  go_loopw [32, 8] (fun i t wr => ∃ (k : Nat) (T : ByteArray), k ≤ n + 1 ∧ i = .int .i64 k ∧ t = .string T ∧ T.size ≤ k * 1003 ∧ Hid (T.data.toList = joinT (ts.take k) (gapsL gl)) ∧ Below w1.heap.size w1 wr) (fun i _ _ => n + 1 - (intOf i).toNat)
  case atStart => exact ⟨0, ⟨#[]⟩, by omega, rfl, rfl, Nat.le_refl _, H0, Below.refl _ _⟩
  case round =>
    obtain ⟨k, T, hk, rfl, rfl, hTz, hT, hbel⟩ := hrel
    have hbel0 := k1.trans (hbel.mono k1.size)
    by_cases hlt : k < n + 1
    · obtain ⟨x, hx⟩ : ∃ x, ts[k]'(by rw [HN.out]; exact hlt) = x := ⟨_, rfl⟩
      obtain ⟨a0, a1, a2, a3, a4, a5⟩ := (HTA.out.below hbel).cells (by rw [HN.out]; exact hlt) hx
      have hxl := HTL.out k (by rw [HN.out]; exact hlt)
      have hsn := HS.out k (by rw [HN.out]; exact hlt)
      rw [hx] at hxl hsn
      obtain ⟨X, hX⟩ : ∃ X : ByteArray, X = ⟨x.t.toArray⟩ := ⟨_, rfl⟩
      have hXl : X.size ≤ 1000 := by rw [hX, arr_size]; exact hxl
      have hbel5 := hbel.trans ((below_one wr (.cells #[.int .i64 x.k, .string X, .int .i64 x.v.k, .int .i64 x.v.n, .string x.v.s, .int .i64 x.a] 37)).mono hbel.size)
      rw [← hX] at a1
      have HX := hid hX
      have HSN := hid hsn
      clear hx hxl hsn hX
      by_cases hg : k < gl.length
      · obtain ⟨bg, og, rfl, hgc⟩ := hG (by omega)
        have g0 := hgc k hg
        have HG0 := hid (HGI.out k hg)
        rw [← hbel0.cell (cell_lt g0)] at g0
        generalize gl[k] = g at *
        have hlg := cell_lt g0
        have hm : g.toNat % 4 = 0 ∨ g.toNat % 4 = 1 ∨ g.toNat % 4 = 2 ∨ g.toNat % 4 = 3 := by omega
        have hbel6 := hbel5.trans ((below_one _ (.cells #[.string ⟨#[32]⟩, .string ⟨#[10]⟩, .string ⟨#[9, 32, 13]⟩, .string ⟨#[32, 32]⟩] 9)).mono hbel5.size)
        clear hgc hG
        rcases hm with hm | hm | hm | hm
        · have em : (g.toNat : Int) % 4 = 0 := by omega
          have HGE : Hid (gapL (g.toNat % 4) = [32]) := hid (by rw [hm]; rfl)
          clear hm
          go_wp2_with fail
          go_roundw
          case rel => exact ⟨k + 1, T ++ (X ++ (⟨#[32]⟩ : ByteArray)), by omega, by go_num, rfl, by rw [ByteArray.size_append, ByteArray.size_append]; have e1 : (⟨#[32]⟩ : ByteArray).size = 1 := rfl; omega, hid (by rw [HSN.out, HG0.out, HGE.out, ← hT.out, HX.out]; exact cat3_list T x.t ⟨#[32]⟩), hbel6⟩
          case measure => simp [intOf]; omega
        · have em : (g.toNat : Int) % 4 = 1 := by omega
          have HGE : Hid (gapL (g.toNat % 4) = [10]) := hid (by rw [hm]; rfl)
          clear hm
          go_wp2_with fail
          go_roundw
          case rel => exact ⟨k + 1, T ++ (X ++ (⟨#[10]⟩ : ByteArray)), by omega, by go_num, rfl, by rw [ByteArray.size_append, ByteArray.size_append]; have e1 : (⟨#[10]⟩ : ByteArray).size = 1 := rfl; omega, hid (by rw [HSN.out, HG0.out, HGE.out, ← hT.out, HX.out]; exact cat3_list T x.t ⟨#[10]⟩), hbel6⟩
          case measure => simp [intOf]; omega
        · have em : (g.toNat : Int) % 4 = 2 := by omega
          have HGE : Hid (gapL (g.toNat % 4) = [9, 32, 13]) := hid (by rw [hm]; rfl)
          clear hm
          go_wp2_with fail
          go_roundw
          case rel => exact ⟨k + 1, T ++ (X ++ (⟨#[9, 32, 13]⟩ : ByteArray)), by omega, by go_num, rfl, by rw [ByteArray.size_append, ByteArray.size_append]; have e1 : (⟨#[9, 32, 13]⟩ : ByteArray).size = 3 := rfl; omega, hid (by rw [HSN.out, HG0.out, HGE.out, ← hT.out, HX.out]; exact cat3_list T x.t ⟨#[9, 32, 13]⟩), hbel6⟩
          case measure => simp [intOf]; omega
        · have em : (g.toNat : Int) % 4 = 3 := by omega
          have HGE : Hid (gapL (g.toNat % 4) = [32, 32]) := hid (by rw [hm]; rfl)
          clear hm
          go_wp2_with fail
          go_roundw
          case rel => exact ⟨k + 1, T ++ (X ++ (⟨#[32, 32]⟩ : ByteArray)), by omega, by go_num, rfl, by rw [ByteArray.size_append, ByteArray.size_append]; have e1 : (⟨#[32, 32]⟩ : ByteArray).size = 2 := rfl; omega, hid (by rw [HSN.out, HG0.out, HGE.out, ← hT.out, HX.out]; exact cat3_list T x.t ⟨#[32, 32]⟩), hbel6⟩
          case measure => simp [intOf]; omega
      · have HG0 := hid (HGO.out k hg)
        go_wp2_with fail
        go_roundw
        case rel => exact ⟨k + 1, T ++ (X ++ (⟨#[32]⟩ : ByteArray)), by omega, by go_num, rfl, by rw [ByteArray.size_append, ByteArray.size_append]; have e1 : (⟨#[32]⟩ : ByteArray).size = 1 := rfl; omega, hid (by rw [HSN.out, HG0.out, ← hT.out, HX.out]; exact cat3_list T x.t ⟨#[32]⟩), hbel5⟩
        case measure => simp [intOf]; omega
    · have hkn : k = n + 1 := by omega
      have k5 := k1.trans (hbel.mono k1.size)
      subst hkn
      have HTA5 := hid (HTA.out.below hbel)
      have hT' : T.data.toList = joinT ts (gapsL gl) := by rw [hT.out, List.take_of_length_le (by rw [HN.out]; omega)]
      have H3 := H2 _ k5 T hT'
      clear hbel hT hT' HTA H2 hG
      go_wp2_with fail
      refine H3.out.mono ?_
      rintro e w2 ⟨A3, c3, rfl, hTJ, hcJ, b3⟩
      have k6 := k5.trans (b3.mono k5.size)
      replace hcJ : js.length ≤ c3 := hcJ
      dsimp only
      rw [HJ.out]
      rw [HJ.out] at hcJ
      obtain ⟨bj, oj, rfl⟩ := hTJ.at (by simp only; rw [HJ.out]; omega)
      have HTJ := hid hTJ
      have HTA6 := hid (HTA5.out.below b3)
      clear H3 hTJ HTA5 b3 k5
      go_wp2_with fail
      go_loopw [73] (fun i wr => ∃ k : Nat, k ≤ n + 1 ∧ i = .int .i64 k ∧ Below w2.heap.size w2 wr) (fun i _ => n + 1 - (intOf i).toNat)
      case atStart => exact ⟨0, by omega, rfl, Below.refl _ _⟩
      case round =>
        obtain ⟨k, hk, rfl, hbel⟩ := hrel
        by_cases hlt : k < n + 1
        · obtain ⟨x, a, hx, hjx⟩ := HJN.out k (by rw [HN.out]; exact hlt) (by rw [HJ.out]; exact hlt)
          obtain ⟨a0, a1, a2, a3, a4, a5⟩ := (HTA6.out.below hbel).cells (by rw [HN.out]; exact hlt) hx
          obtain ⟨d0, d1, d2, d3, d4, d5⟩ := (HTJ.out.below hbel).cells (by rw [HJ.out]; exact hlt) hjx
          dsimp only at d0 d1 d2 d3 d4 d5
          have EQ := eq_val x.v x.v (x := true) (veq_iff.2 rfl)
          have GV := guardVal
          clear hx hjx
          go_wp2_with fail
          go_quiet (fail)
          go_wp2
          go_roundw
          case rel => exact ⟨k + 1, by omega, by go_num, below_drewN hbel _⟩
          case measure => simp [intOf]; omega
        · have hkn : k = n + 1 := by omega
          have k7 := k6.trans (hbel.mono k6.size)
          subst hkn
          clear hbel HTJ HTA6 HJN
          go_wp2_with fail
          refine (HA _ k7).out.mono ?_
          rintro e w6 ⟨rfl, b6⟩
          have k8 := k7.trans (b6.mono k7.size)
          clear HA
          go_wp2
          go_ret
          exact ⟨rfl, k8⟩

theorem law_lback (s : ByteArray) (G : Option Addr) (gl : List UInt8) (cg : Nat) (hgl : gl.length ≤ 9223372036854775807) (w : World) (hG : BytAt w G gl) (hE : EnvL w) :
    Calls Tryd.prog 4 #[.string s, .slice G gl.length cg] w fun e w' => e = .returned (.bool true) ∧ Below w.heap.size w w' := by
  obtain ⟨⟨ts, q1, e1⟩, hx1⟩ : ∃ x, scanL s.data.toList = x := ⟨_, rfl⟩
  by_cases h1 : 1000 < s.size ∨ e1 ≠ 0
  · exact lb_err s G gl cg w hE hx1 h1
  · have h2 : e1 = 0 := by omega
    subst h2
    exact lb_main s G gl cg hgl w hG hE hx1 (by omega)
end Go.Proofs.YtemihmehppbgmaaDoor
