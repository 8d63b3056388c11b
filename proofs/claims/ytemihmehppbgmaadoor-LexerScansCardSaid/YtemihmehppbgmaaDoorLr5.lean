/-
  WALK: the document's Scan (layer 18).
-/
import Derived.Test.YtemihmehppbgmaaDoorLr4
import Derived.Test.YtemihmehppbgmaaDoorLw4
import Derived.Test.YtemihmehppbgmaaDoorKit2
namespace Go.Proofs.YtemihmehppbgmaaDoor
open Go.RowKit

theorem infoTR : (Tryd.prog.info? 33).map (fun i => (i.zero, i.size, i.bytes)) = some (some (.agg zTok), 6, 64) := by kernel_rfl
theorem flatT_snocR {w : World} {B : Nat} {v : Value} {l : List Tok} {t : Tok} (h : w.ownsRow B 33 6 v (l.length + 1) (flatT l ++ [.int .i64 t.k, .string ⟨t.t.toArray⟩, .int .i64 t.v.k, .int .i64 t.v.n, .string t.v.s, .int .i64 t.a])) : w.ownsRow B 33 6 v (l ++ [t]).length (flatT (l ++ [t])) := by
  rw [List.length_append, flatT_append]; exact h

set_option maxRecDepth 100000 in
set_option maxHeartbeats 2000000 in
theorem ref_scan (s : ByteArray) (w : World) (hs : s.size ≤ 65536) {x : List Tok × Int × Int} (hx : scanL s.data.toList = x) :
    Calls Tryd.prog 12 #[.string s] w (RetS w x) := by
  obtain ⟨i0, hi, hz0, hz1, hz2⟩ := info_parts infoTR
  have hll : s.data.toList.length = s.size := by simp
  unfold scanL at hx
  rw [hll, if_neg (by omega)] at hx
  have HX : Hid (glue [] (scan1 (s.data.toList.drop 0) ((0 : Nat) : Int)) = x) := hid (by rw [glue_nil]; exact hx)
  clear hx hll
  go_enter Tryd.func12, Tryd.ntmps12
  go_wp2
  go_loopw [5, 6] (fun v i wr => ∃ (a : Nat) (ts : List Tok), a ≤ s.size ∧ i = .int .i64 a ∧ wr.ownsRow w.heap.size 33 6 v ts.length (flatT ts) ∧ ts.length ≤ a ∧ Hid (glue ts (scan1 (s.data.toList.drop a) (a : Int)) = x) ∧ Below w.heap.size w wr) (fun _ i _ => s.size - (intOf i).toNat)
  case atStart => exact ⟨0, [], by omega, rfl, World.ownsRow_nil _ _ _ _, by simp, HX, Below.refl _ _⟩
  case round =>
    obtain ⟨a, ts, ha, rfl, hown, hlen, HK, hbel⟩ := hrel
    clear HX
    by_cases hlt : a < s.size
    · have hlt' : a < s.data.toList.length := by simpa using hlt
      rcases wht_ways s[a] with ⟨hw, hc⟩ | ⟨hw, n32, n9, n10, n13⟩
      · have e1 : s.data.toList.drop a = s[a] :: s.data.toList.drop (a + 1) := List.drop_eq_getElem_cons hlt'
        have HK2 : Hid (glue ts (scan1 (s.data.toList.drop (a + 1)) ((a + 1 : Nat) : Int)) = x) := hid (by rw [← HK.out, e1, scan1_white hw]; rfl)
        clear HK e1 hw
        rcases hc with hc | hc | hc | hc
        · have b1 : ((s[a].toNat : Int) == 32) = true := by rw [hc]; rfl
          clear hc
          go_wp2
          go_roundw
          case rel => exact ⟨a + 1, ts, by omega, by go_num, hown, by omega, HK2, hbel⟩
          case measure => simp [intOf]; omega
        · have b1 : ((s[a].toNat : Int) == 32) = false := by rw [hc]; rfl
          have b2 : ((s[a].toNat : Int) == 9) = true := by rw [hc]; rfl
          clear hc
          go_wp2
          go_roundw
          case rel => exact ⟨a + 1, ts, by omega, by go_num, hown, by omega, HK2, hbel⟩
          case measure => simp [intOf]; omega
        · have b1 : ((s[a].toNat : Int) == 32) = false := by rw [hc]; rfl
          have b2 : ((s[a].toNat : Int) == 9) = false := by rw [hc]; rfl
          have b3 : ((s[a].toNat : Int) == 10) = true := by rw [hc]; rfl
          clear hc
          go_wp2
          go_roundw
          case rel => exact ⟨a + 1, ts, by omega, by go_num, hown, by omega, HK2, hbel⟩
          case measure => simp [intOf]; omega
        · have b1 : ((s[a].toNat : Int) == 32) = false := by rw [hc]; rfl
          have b2 : ((s[a].toNat : Int) == 9) = false := by rw [hc]; rfl
          have b3 : ((s[a].toNat : Int) == 10) = false := by rw [hc]; rfl
          have b4 : ((s[a].toNat : Int) == 13) = true := by rw [hc]; rfl
          clear hc
          go_wp2
          go_roundw
          case rel => exact ⟨a + 1, ts, by omega, by go_num, hown, by omega, HK2, hbel⟩
          case measure => simp [intOf]; omega
      · have b1 : ((s[a].toNat : Int) == 32) = false := by rw [beq_eq_false_iff_ne]; omega
        have b2 : ((s[a].toNat : Int) == 9) = false := by rw [beq_eq_false_iff_ne]; omega
        have b3 : ((s[a].toNat : Int) == 10) = false := by rw [beq_eq_false_iff_ne]; omega
        have b4 : ((s[a].toNat : Int) == 13) = false := by rw [beq_eq_false_iff_ne]; omega
        have hr : s.data.toList.drop a ≠ [] := by
          intro e
          have := congrArg List.length e
          simp at this; omega
        have hw2 : whtB ((s.data.toList.drop a).getD 0 0) = false := by rw [first_at hlt]; exact hw
        obtain ⟨⟨t, q⟩, hn⟩ : ∃ p, nextL (s.data.toList.drop a) a = p := ⟨_, rfl⟩
        have H2 := fun W => hid (ref_next s a hlt W (by omega) hn)
        by_cases hq : q = 0
        · subst hq
          rw [glue_tok hr hw2 hn, List.drop_drop] at HK
          have hpre := (nextL_ok hr hn).1
          have hne := (nextL_ok hr hn).2.1
          have hpl := hpre.length_le
          have hpos := List.length_pos_iff.2 hne
          have hll : s.data.toList.length = s.size := by simp
          rw [List.length_drop, hll] at hpl
          have HK2 : Hid (glue (ts ++ [t]) (scan1 (s.data.toList.drop (a + t.t.length)) ((a + t.t.length : Nat) : Int)) = x) := HK
          clear HK hr hw hw2 hn hll hpre hne n32 n9 n10 n13
          go_wp2_with fail
          refine (H2 _).out.mono ?_
          rintro e w1 ⟨rfl, b5⟩
          have hbel1 := hbel.trans (b5.mono hbel.size)
          have hown1 := own_below hown b5
          clear H2 b5 hown
          have hbelA := hbel1.trans ((below_one w1 (.cells #[.int .i64 t.k, .string ⟨t.t.toArray⟩, .int .i64 t.v.k, .int .i64 t.v.n, .string t.v.s, .int .i64 t.a] 33)).mono hbel1.size)
          have hownA := own_below hown1 (below_one w1 (.cells #[.int .i64 t.k, .string ⟨t.t.toArray⟩, .int .i64 t.v.k, .int .i64 t.v.n, .string t.v.s, .int .i64 t.a] 33))
          go_wp2_with (at_builtin; refine wpList_append_new2 Tryd.underlying27 hi hz0 hz1 hz2 rfl (by decide) (by decide) rfl rfl rfl hownA rfl (by simp) rfl rfl (by omega) hbelA.size ?_; intro v2 w2 hown2 hg2; have hzt := (hg2.block w1.heap.size (by simp) (fun e => by have := (hown1.lt _ e.symm).2; omega)).trans (heap_alloc_new w1 _); have c1 := cell_res hzt 1)
          go_roundw
          case rel => exact ⟨a + t.t.length, ts ++ [t], by omega, by go_num, flatT_snocR hown2, by simp; omega, HK2, hbelA.trans (grown_below hownA hg2 hbelA.size)⟩
          case measure => simp [intOf]; omega
        · rw [glue_bad hr hw2 hn hq] at HK
          obtain rfl := HK.out
          have bq : (q != 0) = true := by simpa using hq
          clear HK hr hw hw2 hn hq n32 n9 n10 n13
          go_wp2_with fail
          refine (H2 _).out.mono ?_
          rintro e w1 ⟨rfl, b5⟩
          have hbel1 := hbel.trans (b5.mono hbel.size)
          have hbelA := hbel1.trans ((below_one w1 (.cells #[.int .i64 t.k, .string ⟨t.t.toArray⟩, .int .i64 t.v.k, .int .i64 t.v.n, .string t.v.s, .int .i64 t.a] 33)).mono hbel1.size)
          clear H2 b5 hown
          go_wp2
          go_ret3
          exact ⟨none, 0, rfl, fun h => absurd h (by simp), by simp, hbelA⟩
    · have hend : a = s.size := by omega
      subst hend
      have e2 : s.data.toList.drop s.size = [] := List.drop_eq_nil_of_le (by simp)
      rw [e2, glue_end] at HK
      obtain rfl := HK.out
      clear HK e2
      go_wp2_with (at_builtin; refine wpList_append_new Tryd.underlying27 hi hz0 hz1 hz2 rfl (by decide) (by decide) rfl rfl rfl hown rfl rfl rfl (by omega) hbel.size ?_; intro v2 w2 hown2 hg2; obtain ⟨A2, c2, rfl, hT2, hc2⟩ := own_toks (flatT_snocR (t := ⟨0, [], V0, s.size⟩) hown2))
      go_ret3
      exact ⟨A2, c2, by simp, hT2, hc2, hbel.trans (grown_below hown hg2 hbel.size)⟩
end Go.Proofs.YtemihmehppbgmaaDoor
