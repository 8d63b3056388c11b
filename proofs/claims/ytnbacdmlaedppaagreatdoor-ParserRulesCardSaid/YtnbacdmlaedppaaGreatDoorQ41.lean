/-
  PARTS of a claim, merged by segs.py: Lr5, Lr6, PsX.
-/
import Derived.Test.YtnbacdmlaedppaaGreatDoorQ40
import Derived.Test.YtnbacdmlaedppaaGreatDoorQ36
import Derived.Test.YtnbacdmlaedppaaGreatDoorQ07
import Derived.Test.YtnbacdmlaedppaaGreatDoorQ17
import Derived.Test.YtnbacdmlaedppaaGreatDoorQ27
import Derived.Test.YtnbacdmlaedppaaGreatDoorQ30
import Derived.Deep.AppendSrc
namespace Go.Proofs.YtnbacdmlaedppaaGreatDoor

/-! ### Lr5 -/
section
open Go.RowKit

theorem infoTR : (Tryz.prog.info? 81).map (fun i => (i.zero, i.size, i.bytes)) = some (some (.agg zTok), 6, 64) := by kernel_rfl
theorem flatT_snocR {w : World} {B : Nat} {v : Value} {l : List Tok} {t : Tok} (h : w.ownsRow B 81 6 v (l.length + 1) (flatT l ++ [.int .i64 t.k, .string ⟨t.t.toArray⟩, .int .i64 t.v.k, .int .i64 t.v.n, .string t.v.s, .int .i64 t.a])) : w.ownsRow B 81 6 v (l ++ [t]).length (flatT (l ++ [t])) := by
  rw [List.length_append, flatT_append]; exact h

set_option maxRecDepth 100000 in
set_option maxHeartbeats 2000000 in
theorem ref_scan (s : ByteArray) (w : World) (hs : s.size ≤ 65536) {x : List Tok × Int × Int} (hx : scanL s.data.toList = x) :
    Calls Tryz.prog 50 #[.string s] w (RetS w x) := by
  obtain ⟨i0, hi, hz0, hz1, hz2⟩ := info_parts infoTR
  have hll : s.data.toList.length = s.size := by simp
  unfold scanL at hx
  rw [hll, if_neg (by omega)] at hx
  have HX : Hid (glue [] (scan1 (s.data.toList.drop 0) ((0 : Nat) : Int)) = x) := hid (by rw [glue_nil]; exact hx)
  clear hx hll
  go_enter Tryz.func50, Tryz.ntmps50
  go_wp2
  go_loopw [5, 6] (fun v i wr => ∃ (a : Nat) (ts : List Tok), a ≤ s.size ∧ i = .int .i64 a ∧ wr.ownsRow w.heap.size 81 6 v ts.length (flatT ts) ∧ ts.length ≤ a ∧ Hid (glue ts (scan1 (s.data.toList.drop a) (a : Int)) = x) ∧ Below w.heap.size w wr) (fun _ i _ => s.size - (intOf i).toNat)
  case atStart => exact ⟨0, [], by omega, rfl, World.ownsRow_nil _ _ _ _, by simp, HX, Below.refl _ _⟩
  case round =>
    obtain ⟨a, ts, ha, rfl, hown, hlen, HK, hbel⟩ := hrel
    clear HX
    by_cases hlt : a < s.size
    · have hlt' : a < s.data.toList.length := by simpa using hlt
      rcases wht_ways s[a] with ⟨hw, hc⟩ | ⟨hw, n32, n9, n10, n13⟩
      · have e1 : s.data.toList.drop a = s[a] :: s.data.toList.drop (a + 1) := List.drop_eq_getElem_cons hlt'
        have HK2 : Hid (glue ts (scan1 (s.data.toList.drop (a + 1)) ((a + 1 : Nat) : Int)) = x) := hid (by rw [← HK.out, e1, scan1_white hw]; rfl)
        clear HK e1 hw
        rcases hc with hc | hc | hc | hc
        · have b1 : ((s[a].toNat : Int) == 32) = true := by rw [hc]; rfl
          clear hc
          go_wp2
          go_roundw
          case rel => exact ⟨a + 1, ts, by omega, by go_num, hown, by omega, HK2, hbel⟩
          case measure => simp [intOf]; omega
        · have b1 : ((s[a].toNat : Int) == 32) = false := by rw [hc]; rfl
          have b2 : ((s[a].toNat : Int) == 9) = true := by rw [hc]; rfl
          clear hc
          go_wp2
          go_roundw
          case rel => exact ⟨a + 1, ts, by omega, by go_num, hown, by omega, HK2, hbel⟩
          case measure => simp [intOf]; omega
        · have b1 : ((s[a].toNat : Int) == 32) = false := by rw [hc]; rfl
          have b2 : ((s[a].toNat : Int) == 9) = false := by rw [hc]; rfl
          have b3 : ((s[a].toNat : Int) == 10) = true := by rw [hc]; rfl
          clear hc
          go_wp2
          go_roundw
          case rel => exact ⟨a + 1, ts, by omega, by go_num, hown, by omega, HK2, hbel⟩
          case measure => simp [intOf]; omega
        · have b1 : ((s[a].toNat : Int) == 32) = false := by rw [hc]; rfl
          have b2 : ((s[a].toNat : Int) == 9) = false := by rw [hc]; rfl
          have b3 : ((s[a].toNat : Int) == 10) = false := by rw [hc]; rfl
          have b4 : ((s[a].toNat : Int) == 13) = true := by rw [hc]; rfl
          clear hc
          go_wp2
          go_roundw
          case rel => exact ⟨a + 1, ts, by omega, by go_num, hown, by omega, HK2, hbel⟩
          case measure => simp [intOf]; omega
      · have b1 : ((s[a].toNat : Int) == 32) = false := by rw [beq_eq_false_iff_ne]; omega
        have b2 : ((s[a].toNat : Int) == 9) = false := by rw [beq_eq_false_iff_ne]; omega
        have b3 : ((s[a].toNat : Int) == 10) = false := by rw [beq_eq_false_iff_ne]; omega
        have b4 : ((s[a].toNat : Int) == 13) = false := by rw [beq_eq_false_iff_ne]; omega
        have hr : s.data.toList.drop a ≠ [] := by
          intro e
          have := congrArg List.length e
          simp at this; omega
        have hw2 : whtB ((s.data.toList.drop a).getD 0 0) = false := by rw [first_at hlt]; exact hw
        obtain ⟨⟨t, q⟩, hn⟩ : ∃ p, nextL (s.data.toList.drop a) a = p := ⟨_, rfl⟩
        have H2 := fun W => hid (ref_next s a hlt W (by omega) hn)
        by_cases hq : q = 0
        · subst hq
          rw [glue_tok hr hw2 hn, List.drop_drop] at HK
          have hpre := (nextL_ok hr hn).1
          have hne := (nextL_ok hr hn).2.1
          have hpl := hpre.length_le
          have hpos := List.length_pos_iff.2 hne
          have hll : s.data.toList.length = s.size := by simp
          rw [List.length_drop, hll] at hpl
          have HK2 : Hid (glue (ts ++ [t]) (scan1 (s.data.toList.drop (a + t.t.length)) ((a + t.t.length : Nat) : Int)) = x) := HK
          clear HK hr hw hw2 hn hll hpre hne n32 n9 n10 n13
          go_wp2_with fail
          refine (H2 _).out.mono ?_
          rintro e w1 ⟨rfl, b5⟩
          have hbel1 := hbel.trans (b5.mono hbel.size)
          have hown1 := own_below hown b5
          clear H2 b5 hown
          have hbelA := hbel1.trans ((below_one w1 (.cells #[.int .i64 t.k, .string ⟨t.t.toArray⟩, .int .i64 t.v.k, .int .i64 t.v.n, .string t.v.s, .int .i64 t.a] 81)).mono hbel1.size)
          have hownA := own_below hown1 (below_one w1 (.cells #[.int .i64 t.k, .string ⟨t.t.toArray⟩, .int .i64 t.v.k, .int .i64 t.v.n, .string t.v.s, .int .i64 t.a] 81))
          go_wp2_with (at_builtin; refine wpList_append_new2 Tryz.underlying75 hi hz0 hz1 hz2 rfl (by decide) (by decide) rfl rfl rfl hownA rfl (by simp) rfl rfl (by omega) hbelA.size ?_; intro v2 w2 hown2 hg2; have hzt := (hg2.block w1.heap.size (by simp) (fun e => by have := (hown1.lt _ e.symm).2; omega)).trans (heap_alloc_new w1 _); have c1 := cell_res hzt 1)
          go_roundw
          case rel => exact ⟨a + t.t.length, ts ++ [t], by omega, by go_num, flatT_snocR hown2, by simp; omega, HK2, hbelA.trans (grown_below hownA hg2 hbelA.size)⟩
          case measure => simp [intOf]; omega
        · rw [glue_bad hr hw2 hn hq] at HK
          obtain rfl := HK.out
          have bq : (q != 0) = true := by simpa using hq
          clear HK hr hw hw2 hn hq n32 n9 n10 n13
          go_wp2_with fail
          refine (H2 _).out.mono ?_
          rintro e w1 ⟨rfl, b5⟩
          have hbel1 := hbel.trans (b5.mono hbel.size)
          have hbelA := hbel1.trans ((below_one w1 (.cells #[.int .i64 t.k, .string ⟨t.t.toArray⟩, .int .i64 t.v.k, .int .i64 t.v.n, .string t.v.s, .int .i64 t.a] 81)).mono hbel1.size)
          clear H2 b5 hown
          go_wp2
          go_ret3
          exact ⟨none, 0, rfl, fun h => absurd h (by simp), by simp, hbelA⟩
    · have hend : a = s.size := by omega
      subst hend
      have e2 : s.data.toList.drop s.size = [] := List.drop_eq_nil_of_le (by simp)
      rw [e2, glue_end] at HK
      obtain rfl := HK.out
      clear HK e2
      go_wp2_with (at_builtin; refine wpList_append_new Tryz.underlying75 hi hz0 hz1 hz2 rfl (by decide) (by decide) rfl rfl rfl hown rfl rfl rfl (by omega) hbel.size ?_; intro v2 w2 hown2 hg2; obtain ⟨A2, c2, rfl, hT2, hc2⟩ := own_toks (flatT_snocR (t := ⟨0, [], V0, s.size⟩) hown2))
      go_ret3
      exact ⟨A2, c2, by simp, hT2, hc2, hbel.trans (grown_below hown hg2 hbel.size)⟩
end

/-! ### Lr6 -/
section
open Go.RowKit

/-- A call that returns tokens of its own, an offset and an error's number. -/
def RetSo (w : World) (x : List Tok × Int × Int) (e : Ending) (w' : World) : Prop :=
  ∃ A c, e = .returned (.tuple #[.slice A x.1.length c, .int .i64 x.2.1, .int .i64 x.2.2]) ∧ w'.ownsRow w.heap.size 81 6 (.slice A x.1.length c) x.1.length (flatT x.1) ∧ Below w.heap.size w w'

set_option maxRecDepth 100000 in
set_option maxHeartbeats 2000000 in
theorem ref_scan_own (s : ByteArray) (w : World) (hs : s.size ≤ 65536) {x : List Tok × Int × Int} (hx : scanL s.data.toList = x) :
    Calls Tryz.prog 50 #[.string s] w (RetSo w x) := by
  obtain ⟨i0, hi, hz0, hz1, hz2⟩ := info_parts infoTR
  have hll : s.data.toList.length = s.size := by simp
  unfold scanL at hx
  rw [hll, if_neg (by omega)] at hx
  have HX : Hid (glue [] (scan1 (s.data.toList.drop 0) ((0 : Nat) : Int)) = x) := hid (by rw [glue_nil]; exact hx)
  clear hx hll
  go_enter Tryz.func50, Tryz.ntmps50
  go_wp2
  go_loopw [5, 6] (fun v i wr => ∃ (a : Nat) (ts : List Tok), a ≤ s.size ∧ i = .int .i64 a ∧ wr.ownsRow w.heap.size 81 6 v ts.length (flatT ts) ∧ ts.length ≤ a ∧ Hid (glue ts (scan1 (s.data.toList.drop a) (a : Int)) = x) ∧ Below w.heap.size w wr) (fun _ i _ => s.size - (intOf i).toNat)
  case atStart => exact ⟨0, [], by omega, rfl, World.ownsRow_nil _ _ _ _, by simp, HX, Below.refl _ _⟩
  case round =>
    obtain ⟨a, ts, ha, rfl, hown, hlen, HK, hbel⟩ := hrel
    clear HX
    by_cases hlt : a < s.size
    · have hlt' : a < s.data.toList.length := by simpa using hlt
      rcases wht_ways s[a] with ⟨hw, hc⟩ | ⟨hw, n32, n9, n10, n13⟩
      · have e1 : s.data.toList.drop a = s[a] :: s.data.toList.drop (a + 1) := List.drop_eq_getElem_cons hlt'
        have HK2 : Hid (glue ts (scan1 (s.data.toList.drop (a + 1)) ((a + 1 : Nat) : Int)) = x) := hid (by rw [← HK.out, e1, scan1_white hw]; rfl)
        clear HK e1 hw
        rcases hc with hc | hc | hc | hc
        · have b1 : ((s[a].toNat : Int) == 32) = true := by rw [hc]; rfl
          clear hc
          go_wp2
          go_roundw
          case rel => exact ⟨a + 1, ts, by omega, by go_num, hown, by omega, HK2, hbel⟩
          case measure => simp [intOf]; omega
        · have b1 : ((s[a].toNat : Int) == 32) = false := by rw [hc]; rfl
          have b2 : ((s[a].toNat : Int) == 9) = true := by rw [hc]; rfl
          clear hc
          go_wp2
          go_roundw
          case rel => exact ⟨a + 1, ts, by omega, by go_num, hown, by omega, HK2, hbel⟩
          case measure => simp [intOf]; omega
        · have b1 : ((s[a].toNat : Int) == 32) = false := by rw [hc]; rfl
          have b2 : ((s[a].toNat : Int) == 9) = false := by rw [hc]; rfl
          have b3 : ((s[a].toNat : Int) == 10) = true := by rw [hc]; rfl
          clear hc
          go_wp2
          go_roundw
          case rel => exact ⟨a + 1, ts, by omega, by go_num, hown, by omega, HK2, hbel⟩
          case measure => simp [intOf]; omega
        · have b1 : ((s[a].toNat : Int) == 32) = false := by rw [hc]; rfl
          have b2 : ((s[a].toNat : Int) == 9) = false := by rw [hc]; rfl
          have b3 : ((s[a].toNat : Int) == 10) = false := by rw [hc]; rfl
          have b4 : ((s[a].toNat : Int) == 13) = true := by rw [hc]; rfl
          clear hc
          go_wp2
          go_roundw
          case rel => exact ⟨a + 1, ts, by omega, by go_num, hown, by omega, HK2, hbel⟩
          case measure => simp [intOf]; omega
      · have b1 : ((s[a].toNat : Int) == 32) = false := by rw [beq_eq_false_iff_ne]; omega
        have b2 : ((s[a].toNat : Int) == 9) = false := by rw [beq_eq_false_iff_ne]; omega
        have b3 : ((s[a].toNat : Int) == 10) = false := by rw [beq_eq_false_iff_ne]; omega
        have b4 : ((s[a].toNat : Int) == 13) = false := by rw [beq_eq_false_iff_ne]; omega
        have hr : s.data.toList.drop a ≠ [] := by
          intro e
          have := congrArg List.length e
          simp at this; omega
        have hw2 : whtB ((s.data.toList.drop a).getD 0 0) = false := by rw [first_at hlt]; exact hw
        obtain ⟨⟨t, q⟩, hn⟩ : ∃ p, nextL (s.data.toList.drop a) a = p := ⟨_, rfl⟩
        have H2 := fun W => hid (ref_next s a hlt W (by omega) hn)
        by_cases hq : q = 0
        · subst hq
          rw [glue_tok hr hw2 hn, List.drop_drop] at HK
          have hpre := (nextL_ok hr hn).1
          have hne := (nextL_ok hr hn).2.1
          have hpl := hpre.length_le
          have hpos := List.length_pos_iff.2 hne
          have hll : s.data.toList.length = s.size := by simp
          rw [List.length_drop, hll] at hpl
          have HK2 : Hid (glue (ts ++ [t]) (scan1 (s.data.toList.drop (a + t.t.length)) ((a + t.t.length : Nat) : Int)) = x) := HK
          clear HK hr hw hw2 hn hll hpre hne n32 n9 n10 n13
          go_wp2_with fail
          refine (H2 _).out.mono ?_
          rintro e w1 ⟨rfl, b5⟩
          have hbel1 := hbel.trans (b5.mono hbel.size)
          have hown1 := own_below hown b5
          clear H2 b5 hown
          have hbelA := hbel1.trans ((below_one w1 (.cells #[.int .i64 t.k, .string ⟨t.t.toArray⟩, .int .i64 t.v.k, .int .i64 t.v.n, .string t.v.s, .int .i64 t.a] 81)).mono hbel1.size)
          have hownA := own_below hown1 (below_one w1 (.cells #[.int .i64 t.k, .string ⟨t.t.toArray⟩, .int .i64 t.v.k, .int .i64 t.v.n, .string t.v.s, .int .i64 t.a] 81))
          go_wp2_with (at_builtin; refine wpList_append_new2 Tryz.underlying75 hi hz0 hz1 hz2 rfl (by decide) (by decide) rfl rfl rfl hownA rfl (by simp) rfl rfl (by omega) hbelA.size ?_; intro v2 w2 hown2 hg2; have hzt := (hg2.block w1.heap.size (by simp) (fun e => by have := (hown1.lt _ e.symm).2; omega)).trans (heap_alloc_new w1 _); have c1 := cell_res hzt 1)
          go_roundw
          case rel => exact ⟨a + t.t.length, ts ++ [t], by omega, by go_num, flatT_snocR hown2, by simp; omega, HK2, hbelA.trans (grown_below hownA hg2 hbelA.size)⟩
          case measure => simp [intOf]; omega
        · rw [glue_bad hr hw2 hn hq] at HK
          obtain rfl := HK.out
          have bq : (q != 0) = true := by simpa using hq
          clear HK hr hw hw2 hn hq n32 n9 n10 n13
          go_wp2_with fail
          refine (H2 _).out.mono ?_
          rintro e w1 ⟨rfl, b5⟩
          have hbel1 := hbel.trans (b5.mono hbel.size)
          have hbelA := hbel1.trans ((below_one w1 (.cells #[.int .i64 t.k, .string ⟨t.t.toArray⟩, .int .i64 t.v.k, .int .i64 t.v.n, .string t.v.s, .int .i64 t.a] 81)).mono hbel1.size)
          clear H2 b5 hown
          go_wp2
          go_ret3
          exact ⟨none, 0, rfl, World.ownsRow_nil _ _ _ _, hbelA⟩
    · have hend : a = s.size := by omega
      subst hend
      have e2 : s.data.toList.drop s.size = [] := List.drop_eq_nil_of_le (by simp)
      rw [e2, glue_end] at HK
      obtain rfl := HK.out
      clear HK e2
      go_wp2_with (at_builtin; refine wpList_append_new Tryz.underlying75 hi hz0 hz1 hz2 rfl (by decide) (by decide) rfl rfl rfl hown rfl rfl rfl (by omega) hbel.size ?_; intro v2 w2 hown2 hg2; obtain ⟨A2, c2, rfl⟩ := own_shape hown2; have hT2 := flatT_snocR (t := ⟨0, [], V0, s.size⟩) hown2)
      go_ret3
      exact ⟨A2, c2, by simp, by simpa using hT2, hbel.trans (grown_below hown hg2 hbel.size)⟩
end

/-! ### PsX -/
section
open Go.RowKit

/-- What scan answers. -/
def RetSx (w : World) (x : List Tok × Int × Int) (e : Ending) (w' : World) : Prop :=
  (if x.2.2 = 0 then ∃ A c, e = .returned (.tuple #[.slice A (x.1.length + 3) c, .int .i64 0, .int .i64 0]) ∧ TokAt w' A (ext3 x.1) ∧ ∀ ad, A = some ad → w.heap.size ≤ ad.block
   else e = .returned (.tuple #[.slice none 0 0, .int .i64 x.2.1, .int .i64 x.2.2])) ∧ Below w.heap.size w w'
set_option maxRecDepth 100000 in
set_option maxHeartbeats 2000000 in
theorem ref_scan3 (s : ByteArray) (w : World) (hs : s.size ≤ 65536) {x : List Tok × Int × Int} (hx : scanL s.data.toList = x) :
    Calls Tryz.prog 25 #[.string s] w (RetSx w x) := by
  obtain ⟨i0, hi, hz0, hz1, hz2⟩ := info_parts infoTR
  obtain ⟨L, ta, te⟩ := x
  have HS := hid (ref_scan_own s w hs hx)
  have hlen : s.data.toList.length = s.size := by simp
  by_cases he : te = 0
  · subst he
    obtain ⟨hsc, hta, _⟩ := scanL_ok hx
    have hEn := hsc.ended
    have hfew := hsc.head
    have hpos := hEn.pos
    have HEn := hid hEn
    clear hx hsc hEn
    go_enter Tryz.func25, Tryz.ntmps25
    go_wp2_with fail
    refine HS.out.mono ?_
    rintro e w1 ⟨A, c, rfl, hown, b1⟩
    obtain ⟨A', c', e', hT, hc⟩ := own_toks hown
    injection e' with e1 _ e2
    subst e1 e2
    obtain ⟨b, o, hA, hcl⟩ := hT hpos
    simp only at hown hT hcl hc hA
    subst hA
    obtain ⟨n, hn⟩ : ∃ n, L.length = n + 1 := ⟨L.length - 1, by omega⟩
    obtain ⟨h0, h1, h2, h3, h4, h5⟩ := hcl n (by omega)
    have hend : tkL L L.length = L[n] := by
      unfold tkL
      rw [show min L.length (L.length - 1) = n by omega, List.getD_eq_getElem?_getD, List.getElem?_eq_getElem (by omega)]; rfl
    obtain ⟨t, ht⟩ : ∃ t, L[n] = t := ⟨_, rfl⟩
    rw [ht] at h0 h1 h2 h3 h4 h5 hend
    have HEnd := hid hend
    have HOwn := hid hown
    have HT := hid hT
    have HB1 := hid b1
    have e1 : ((L.length : Int) - 1) = (n : Int) := by omega
    have e2 : IntKind.i64.wrap (n : Int) = (n : Int) := by rw [IntKind.wrap_i64]; omega
    have hnl : (n : Int) < (L.length : Int) := by omega
    have HN := hid hn
    have kx := below_one w1 (.cells #[.int .i64 t.k, .string ⟨t.t.toArray⟩, .int .i64 t.v.k, .int .i64 t.v.n, .string t.v.s, .int .i64 t.a] 81)
    have hown2 := own_below hown kx
    have HK := hid (b1.trans (kx.mono b1.size))
    have hbs : w.heap.size ≤ (w1.alloc (.cells #[.int .i64 t.k, .string ⟨t.t.toArray⟩, .int .i64 t.v.k, .int .i64 t.v.n, .string t.v.s, .int .i64 t.a] 81)).heap.size := HK.out.size
    have hlm : (L.length + 3) * 64 ≤ 140737488355328 := by omega
    clear HS hown hT hcl b1 hn hend ht kx HT hc hfew hpos
    simp only
    go_wp2_with (at_builtin; refine wpList_append_new2 Tryz.underlying75 hi hz0 hz1 hz2 rfl (by decide) (by decide) rfl rfl rfl hown2 rfl (by simp) rfl rfl hlm hbs ?_; intro v2 w2 hown3 hg2; obtain ⟨A2, c2, rfl⟩ := own_shape hown3; have HO3 := hid hown3)
    go_ret3
    refine ⟨?_, HK.out.trans (grown_below hown2 hg2 hbs)⟩
    rw [if_pos rfl]
    have hh : w2.ownsRow w.heap.size 81 6 (.slice A2 (ext3 L).length c2) (ext3 L).length (flatT (ext3 L)) := by
      rw [ext3_len]
      unfold ext3
      rw [flatT_append, HEnd.out]
      exact HO3.out
    obtain ⟨A3, c3, e3, hT3, _⟩ := own_toks hh
    injection e3 with e4 _ e5
    subst e4 e5
    exact ⟨A2, c2, rfl, hT3, fun ad e => (HO3.out.lt ad.block (by rw [e]; rfl)).1⟩
  · have hL := scanL_err hx he
    have hb : (te != 0) = true := by simpa using he
    have HE := hid he
    clear hx he
    go_enter Tryz.func25, Tryz.ntmps25
    go_wp2_with fail
    refine HS.out.mono ?_
    rintro e w1 ⟨A, c, rfl, hown, b1⟩
    clear hown HS
    simp only
    go_wp2
    go_ret3
    exact ⟨by rw [if_neg HE.out]; rfl, b1⟩
end
end Go.Proofs.YtnbacdmlaedppaaGreatDoor
