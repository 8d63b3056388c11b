/-
  WALK: ordinallaw02.RowOrders.
-/
import Derived.Test.YtkoajdbijlpgaaaDoorFew
import Derived.Test.YtkoajdbijlpgaaaDoorOrd
namespace Go.Proofs.YtkoajdbijlpgaaaDoor
open Go.RowKit

theorem rowsAt3 {w : World} {g : Nat} {t : TypeId} {fz : Nat × Nat} {A0 A1 A2 : Option Addr} {c0 c1 c2 : Nat} {a b c : List V} (h0 : RowAt w A0 a) (h1 : RowAt w A1 b) (h2 : RowAt w A2 c)
    (h : w.heap[g]? = some (.cells #[.slice A0 a.length c0, .slice A1 b.length c1, .slice A2 c.length c2] t fz)) : RowsAt w (some ⟨g, 0, none⟩) [a, b, c] := by
  intro _
  refine ⟨g, 0, rfl, fun i hi => ?_⟩
  match i, hi with
  | 0, _ => exact ⟨A0, c0, by rw [cell_of_row w g _ _ t fz h]; rfl, h0⟩
  | 1, _ => exact ⟨A1, c1, by rw [cell_of_row w g _ _ t fz h]; rfl, h1⟩
  | 2, _ => exact ⟨A2, c2, by rw [cell_of_row w g _ _ t fz h]; rfl, h2⟩

theorem infoBool : (Tryd.prog.info? 4).map (fun i => (i.zero, i.size, i.bytes)) = some (some (.bool false), 1, 1) := by kernel_rfl

theorem own_bools {w : World} {B : Nat} {e : TypeId} {v : Value} {l : List Bool} (h : w.ownsRow B e 1 v l.length (l.map Value.bool)) : ∃ A c, v = .slice A l.length c ∧ BoolsAt w A l := by
  rcases h.2 with ⟨rfl, h0⟩ | ⟨g, cap, cur, rfl, hB, hh, hn, hm, hcs, ht⟩
  · exact ⟨none, 0, by rw [h0], fun hp => by omega⟩
  · refine ⟨some ⟨g, 0, none⟩, cap, rfl, fun hp => ⟨g, 0, rfl, fun i hi => ?_⟩⟩
    rw [h.cellAt _ (by omega), Nat.zero_add]
    simp [hi]

theorem few3 {a b c : List V} (h : fewB [a, b, c] = true) : a.length ≤ 20 ∧ b.length ≤ 20 ∧ c.length ≤ 20 := by
  simp [fewB, fewRow] at h; omega

/-- What the law's own flags come to. -/
def flipD (d : List Bool) (n : Nat) : List Bool := (List.range n).map fun i => !(d.getD i false)
theorem flipD_succ (d : List Bool) (k : Nat) : flipD d (k + 1) = flipD d k ++ [!(d.getD k false)] := by simp [flipD, List.range_succ]
theorem flipD_length (d : List Bool) (n : Nat) : (flipD d n).length = n := by simp [flipD]
theorem flipD_getD (d : List Bool) (n i : Nat) (h : i < n) : (flipD d n).getD i false = !(d.getD i false) := by simp [flipD, List.getD, h]

/-- The law's loop and its end. -/
def OrdEnd (w : World) (e : Ending) (w' : World) : Prop := e = .returned (.bool true) ∧ Below w.heap.size w w'

set_option maxRecDepth 100000 in
set_option maxHeartbeats 4000000 in
theorem law_orders (A0 A1 A2 D : Option Addr) (c0 c1 c2 cd : Nat) (a b c : List V) (d : List Bool) (w : World) (ha : RowAt w A0 a) (hb : RowAt w A1 b) (hc : RowAt w A2 c) (hd : BoolsAt w D d) (ht : Tab w) :
    Calls Tryd.prog 3 #[.agg #[.slice A0 a.length c0, .slice A1 b.length c1, .slice A2 c.length c2], .slice D d.length cd] w fun e w' => e = .returned (.bool true) ∧ Below w.heap.size w w' := by
  have hbx := below_one w (.cells #[.slice A0 a.length c0, .slice A1 b.length c1, .slice A2 c.length c2] 24)
  have Haw := fun W hW => hid (awake2 W hW)
  cases hF : fewB [a, b, c]
  · have HF := hid hF
    clear hF
    go_enter Tryd.func3, Tryd.ntmps3
    go_wp2_with fail
    go_quiet (fail)
    have hb2 := below_drewN hbx nq
    have hb3 := hb2.alloc (by simp) (.cells #[.slice A0 a.length c0, .slice A1 b.length c1, .slice A2 c.length c2] 23)
    have hfew := law_few (some ⟨w.heap.size + 1, 0, none⟩) 3 [a, b, c] _ (rowsAt3 (ha.below hb3) (hb.below hb3) (hc.below hb3) (by have := heap1 (((w.alloc (.cells #[.slice A0 a.length c0, .slice A1 b.length c1, .slice A2 c.length c2] 24))).drewN nq) (.cells #[.slice A0 a.length c0, .slice A1 b.length c1, .slice A2 c.length c2] 23); simpa using this)) (by simp) HF.out
    have Hfew := hid hfew
    clear hfew
    go_wp2_with fail
    refine (Hfew.out).mono ?_
    rintro e w3 ⟨rfl, hb4⟩
    have hbel := hb3.trans (hb4.mono hb3.size)
    have Ht := hid (ht.below hbel)
    clear hb4 hb3 hb2 Hfew ht ha hb hc hd
    go_wp2_with fail
    refine ((Haw _ Ht.out).out).mono ?_
    rintro e w4 ⟨rfl, hb5⟩
    go_wp2
    go_ret
    exact ⟨rfl, hbel.trans (hb5.mono hbel.size)⟩
  · obtain ⟨la, lb, lc⟩ := few3 hF
    have HF := hid hF
    clear hF
    by_cases hd40 : d.length ≤ 40
    · have tok0 : True := trivial
      obtain ⟨x, hx⟩ : ∃ x, rowCmp d a b = x := ⟨_, rfl⟩
      obtain ⟨y, hy⟩ : ∃ y, rowCmp d b c = y := ⟨_, rfl⟩
      obtain ⟨z, hz⟩ : ∃ z, rowCmp d a c = z := ⟨_, rfl⟩
      have hx' : rowCmp d b a = -x := by rw [← hx]; exact rowCmp_anti d a b
      have h0 : rowCmp d a a = 0 := (rowCmp_ord d).refl a
      have hq : decide (rowCmp [] a b = 0) = (x == 0) := by
        rw [← hx, Bool.eq_iff_iff]; simp [rowCmp_zero]
      have hf : a.length = b.length → rowCmp (flipD d a.length) a b = -x := fun e => by
        rw [← hx]; exact rowCmp_flip a.length d _ a b rfl e.symm (fun i hi => flipD_getD d _ i hi)
      have htr := rowCmp_trans d a b c
      have r1 := rowCmp_range d a b
      have r2 := rowCmp_range d b c
      have r3 := rowCmp_range d a c
      rw [hx] at r1 htr
      rw [hy] at r2 htr
      rw [hz] at r3 htr
      have hcase : (x = 0 ∧ y = 0 ∧ z = 0) ∨ (x ≤ 0 ∧ y ≤ 0 ∧ z < 0) ∨ 0 < x ∨ (x ≤ 0 ∧ 0 < y) := by omega
      have Cab := fun W (h : Below w.heap.size w W) => hid (compareBy A0 A1 D c0 c1 cd a b d W hx (ha.below h) (hb.below h) (hd.below h) (by omega) (by omega) (by omega))
      have Cbc := fun W (h : Below w.heap.size w W) => hid (compareBy A1 A2 D c1 c2 cd b c d W hy (hb.below h) (hc.below h) (hd.below h) (by omega) (by omega) (by omega))
      have Cac := fun W (h : Below w.heap.size w W) => hid (compareBy A0 A2 D c0 c2 cd a c d W hz (ha.below h) (hc.below h) (hd.below h) (by omega) (by omega) (by omega))
      have Cba := fun W (h : Below w.heap.size w W) => hid (compareBy A1 A0 D c1 c0 cd b a d W hx' (hb.below h) (ha.below h) (hd.below h) (by omega) (by omega) (by omega))
      have Caa := fun W (h : Below w.heap.size w W) => hid (compareBy A0 A0 D c0 c0 cd a a d W h0 (ha.below h) (ha.below h) (hd.below h) (by omega) (by omega) (by omega))
      have Ceq := fun W (h : Below w.heap.size w W) => hid (row_equal A0 A1 c0 c1 a b W hq (ha.below h) (hb.below h) (by omega) (by omega))
      have Haw' := fun W (h : Below w.heap.size w W) => Haw W (ht.below h)
      have Cfl := fun (e : a.length = b.length) (F : Option Addr) (n : Nat) (W) (h : Below w.heap.size w W) (hF : BoolsAt W F (flipD d a.length)) => hid (compareBy A0 A1 F c0 c1 n a b (flipD d a.length) W (hf e) (ha.below h) (hb.below h) hF (by omega) (by omega) (by rw [flipD_length]; omega))
      have HD := hid hd
      obtain ⟨i0, hi, hz0, hz1, hz2⟩ := info_parts infoBool
      clear hx hy hz hx' h0 hq hf htr r2 r3 Haw
      obtain ⟨r1, r1'⟩ := r1
      rcases hcase with ⟨rfl, rfl, rfl⟩ | ⟨s1, s2, s3⟩ | s1 | ⟨s1, s2⟩
      · have tok : True := trivial
        go_enter Tryd.func3, Tryd.ntmps3
        go_wp2_with fail
        go_quiet (fail)
        have hb2 := below_drewN hbx nq
        have hb3 := hb2.alloc (by simp) (.cells #[.slice A0 a.length c0, .slice A1 b.length c1, .slice A2 c.length c2] 23)
        have hfew := law_few (some ⟨w.heap.size + 1, 0, none⟩) 3 [a, b, c] _ (rowsAt3 (ha.below hb3) (hb.below hb3) (hc.below hb3) (by have := heap1 (((w.alloc (.cells #[.slice A0 a.length c0, .slice A1 b.length c1, .slice A2 c.length c2] 24))).drewN nq) (.cells #[.slice A0 a.length c0, .slice A1 b.length c1, .slice A2 c.length c2] 23); simpa using this)) (by simp) HF.out
        have Hfew := hid hfew
        clear hfew
        go_wp2_with fail
        refine (Hfew.out).mono ?_
        rintro e w3 ⟨rfl, hb4⟩
        have k3 := hb3.trans (hb4.mono hb3.size)
        clear hb4 hb3 hb2 Hfew ht ha hb hc hd
        go_wp2_with fail
        refine ((Cab _ k3).out).mono ?_
        rintro e w4 ⟨rfl, j4⟩
        have k4 := k3.trans (j4.mono k3.size)
        clear j4 k3
        go_wp2_with fail
        refine ((Cbc _ k4).out).mono ?_
        rintro e w5 ⟨rfl, j5⟩
        have k5 := k4.trans (j5.mono k4.size)
        clear j5 k4
        go_wp2_with fail
        refine ((Cac _ k5).out).mono ?_
        rintro e w6 ⟨rfl, j6⟩
        have k6 := k5.trans (j6.mono k5.size)
        clear j6 k5
        go_wp2_with fail
        refine ((Cba _ k6).out).mono ?_
        rintro e w7 ⟨rfl, j7⟩
        have k7 := k6.trans (j7.mono k6.size)
        clear j7 k6
        go_wp2_with fail
        refine ((Caa _ k7).out).mono ?_
        rintro e w8 ⟨rfl, j8⟩
        have k8 := k7.trans (j8.mono k7.size)
        clear j8 k7
        go_wp2_with fail
        refine ((Ceq _ k8).out).mono ?_
        rintro e w9 ⟨rfl, j9⟩
        have k9 := k8.trans (j9.mono k8.size)
        clear j9 k8
        go_wp2_with fail
        go_loopw [11, 91] (fun v i wr => ∃ k : Nat, k ≤ a.length ∧ i = .int .i64 k ∧ wr.ownsRow w.heap.size 4 1 v k ((flipD d k).map Value.bool) ∧ Below w.heap.size w wr) (fun _ i _ => a.length - (intOf i).toNat)
        case atStart => exact ⟨0, by omega, rfl, World.ownsRow_nil _ _ _ _, k9⟩
        case round =>
          obtain ⟨k, hk, rfl, hown, hbel⟩ := hrel
          have hsz := hbel.size
          by_cases hlt : k < a.length
          · have HS := hid (flipD_succ d k)
            by_cases hkd : k < d.length
            · have hd := HD.out
              obtain ⟨bd, od, rfl, hdc⟩ := hd (by omega)
              have f0 := hdc k hkd
              rw [← hbel.cell (cell_lt f0)] at f0
              have hgd : d.getD k false = d[k] := by simp [List.getD, hkd]
              have HG := hid hgd
              have dk : decide (d.length ≤ k) = false := by simp; omega
              generalize d[k] = q at *
              clear hdc hgd hd HD
              go_wp2_with (at_builtin; refine wpList_append_new Tryd.underlying25 hi hz0 hz1 hz2 rfl (by decide) (by decide) rfl rfl rfl hown rfl rfl rfl (by omega) hsz ?_; intro v2 w9 hown2 hg2)
              go_roundw
              case rel => exact ⟨k + 1, by omega, by go_num, by rw [HS.out, List.map_append, HG.out]; exact hown2, hbel.trans (grown_below hown hg2 hsz)⟩
              case measure => simp [intOf]; omega
            · have HG : Hid (d.getD k false = false) := hid (by simp [List.getD, show ¬ k < d.length from hkd])
              go_wp2_with (at_builtin; refine wpList_append_new Tryd.underlying25 hi hz0 hz1 hz2 rfl (by decide) (by decide) rfl rfl rfl hown rfl rfl rfl (by omega) hsz ?_; intro v2 w9 hown2 hg2)
              go_roundw
              case rel => exact ⟨k + 1, by omega, by go_num, by rw [HS.out, List.map_append, HG.out]; exact hown2, hbel.trans (grown_below hown hg2 hsz)⟩
              case measure => simp [intOf]; omega
          · have ek : k = (flipD d a.length).length := by rw [flipD_length]; omega
            have ek2 : k = a.length := by omega
            have hown2 : wr.ownsRow w.heap.size 4 1 u11 (flipD d a.length).length ((flipD d a.length).map Value.bool) := by rw [← ek, ← ek2]; exact hown
            obtain ⟨F, nf, rfl, hFl⟩ := own_bools hown2
            have hcap := hid ek
            clear hown hown2 ek ek2
            go_wp2_with fail
            refine ((Haw' _ hbel).out).mono ?_
            rintro e w9 ⟨rfl, j9⟩
            have hFl2 := hFl.below j9
            have k9 := hbel.trans (j9.mono hbel.size)
            clear hFl j9
            by_cases hab : a.length = b.length
            · have Cf := Cfl hab F nf _ k9 hFl2
              have n1 : ((a.length : Int) != (b.length : Int)) = false := by simp [hab]
              have n2 : (a.length != b.length) = false := by simp [hab]
              clear hab Cfl
              go_wp2_with fail
              refine (Cf.out).mono ?_
              rintro e w10 ⟨rfl, j10⟩
              go_wp2
              go_ret
              exact ⟨rfl, k9.trans (j10.mono k9.size)⟩
            · have n1 : ((a.length : Int) != (b.length : Int)) = true := by simp; omega
              have n2 : (a.length != b.length) = true := by simp [hab]
              clear hab Cfl
              go_wp2
              go_ret
              exact ⟨rfl, k9⟩
      · have t1 : decide (x ≤ 0) = true := by simpa using s1
        have t2 : decide (y ≤ 0) = true := by simpa using s2
        have t3 : decide (0 < z) = false := by simp; omega
        have t4 : (z == 0) = false := by simp; omega
        go_enter Tryd.func3, Tryd.ntmps3
        go_wp2_with fail
        go_quiet (fail)
        have hb2 := below_drewN hbx nq
        have hb3 := hb2.alloc (by simp) (.cells #[.slice A0 a.length c0, .slice A1 b.length c1, .slice A2 c.length c2] 23)
        have hfew := law_few (some ⟨w.heap.size + 1, 0, none⟩) 3 [a, b, c] _ (rowsAt3 (ha.below hb3) (hb.below hb3) (hc.below hb3) (by have := heap1 (((w.alloc (.cells #[.slice A0 a.length c0, .slice A1 b.length c1, .slice A2 c.length c2] 24))).drewN nq) (.cells #[.slice A0 a.length c0, .slice A1 b.length c1, .slice A2 c.length c2] 23); simpa using this)) (by simp) HF.out
        have Hfew := hid hfew
        clear hfew
        go_wp2_with fail
        refine (Hfew.out).mono ?_
        rintro e w3 ⟨rfl, hb4⟩
        have k3 := hb3.trans (hb4.mono hb3.size)
        clear hb4 hb3 hb2 Hfew ht ha hb hc hd
        go_wp2_with fail
        refine ((Cab _ k3).out).mono ?_
        rintro e w4 ⟨rfl, j4⟩
        have k4 := k3.trans (j4.mono k3.size)
        clear j4 k3
        go_wp2_with fail
        refine ((Cbc _ k4).out).mono ?_
        rintro e w5 ⟨rfl, j5⟩
        have k5 := k4.trans (j5.mono k4.size)
        clear j5 k4
        go_wp2_with fail
        refine ((Cac _ k5).out).mono ?_
        rintro e w6 ⟨rfl, j6⟩
        have k6 := k5.trans (j6.mono k5.size)
        clear j6 k5
        go_wp2_with fail
        refine ((Cba _ k6).out).mono ?_
        rintro e w7 ⟨rfl, j7⟩
        have k7 := k6.trans (j7.mono k6.size)
        clear j7 k6
        go_wp2_with fail
        refine ((Caa _ k7).out).mono ?_
        rintro e w8 ⟨rfl, j8⟩
        have k8 := k7.trans (j8.mono k7.size)
        clear j8 k7
        go_wp2_with fail
        refine ((Ceq _ k8).out).mono ?_
        rintro e w9 ⟨rfl, j9⟩
        have k9 := k8.trans (j9.mono k8.size)
        clear j9 k8
        go_wp2_with fail
        go_loopw [11, 91] (fun v i wr => ∃ k : Nat, k ≤ a.length ∧ i = .int .i64 k ∧ wr.ownsRow w.heap.size 4 1 v k ((flipD d k).map Value.bool) ∧ Below w.heap.size w wr) (fun _ i _ => a.length - (intOf i).toNat)
        case atStart => exact ⟨0, by omega, rfl, World.ownsRow_nil _ _ _ _, k9⟩
        case round =>
          obtain ⟨k, hk, rfl, hown, hbel⟩ := hrel
          have hsz := hbel.size
          by_cases hlt : k < a.length
          · have HS := hid (flipD_succ d k)
            by_cases hkd : k < d.length
            · have hd := HD.out
              obtain ⟨bd, od, rfl, hdc⟩ := hd (by omega)
              have f0 := hdc k hkd
              rw [← hbel.cell (cell_lt f0)] at f0
              have hgd : d.getD k false = d[k] := by simp [List.getD, hkd]
              have HG := hid hgd
              have dk : decide (d.length ≤ k) = false := by simp; omega
              generalize d[k] = q at *
              clear hdc hgd hd HD
              go_wp2_with (at_builtin; refine wpList_append_new Tryd.underlying25 hi hz0 hz1 hz2 rfl (by decide) (by decide) rfl rfl rfl hown rfl rfl rfl (by omega) hsz ?_; intro v2 w9 hown2 hg2)
              go_roundw
              case rel => exact ⟨k + 1, by omega, by go_num, by rw [HS.out, List.map_append, HG.out]; exact hown2, hbel.trans (grown_below hown hg2 hsz)⟩
              case measure => simp [intOf]; omega
            · have HG : Hid (d.getD k false = false) := hid (by simp [List.getD, show ¬ k < d.length from hkd])
              go_wp2_with (at_builtin; refine wpList_append_new Tryd.underlying25 hi hz0 hz1 hz2 rfl (by decide) (by decide) rfl rfl rfl hown rfl rfl rfl (by omega) hsz ?_; intro v2 w9 hown2 hg2)
              go_roundw
              case rel => exact ⟨k + 1, by omega, by go_num, by rw [HS.out, List.map_append, HG.out]; exact hown2, hbel.trans (grown_below hown hg2 hsz)⟩
              case measure => simp [intOf]; omega
          · have ek : k = (flipD d a.length).length := by rw [flipD_length]; omega
            have ek2 : k = a.length := by omega
            have hown2 : wr.ownsRow w.heap.size 4 1 u11 (flipD d a.length).length ((flipD d a.length).map Value.bool) := by rw [← ek, ← ek2]; exact hown
            obtain ⟨F, nf, rfl, hFl⟩ := own_bools hown2
            have hcap := hid ek
            clear hown hown2 ek ek2
            go_wp2_with fail
            refine ((Haw' _ hbel).out).mono ?_
            rintro e w9 ⟨rfl, j9⟩
            have hFl2 := hFl.below j9
            have k9 := hbel.trans (j9.mono hbel.size)
            clear hFl j9
            by_cases hab : a.length = b.length
            · have Cf := Cfl hab F nf _ k9 hFl2
              have n1 : ((a.length : Int) != (b.length : Int)) = false := by simp [hab]
              have n2 : (a.length != b.length) = false := by simp [hab]
              clear hab Cfl
              go_wp2_with fail
              refine (Cf.out).mono ?_
              rintro e w10 ⟨rfl, j10⟩
              go_wp2
              go_ret
              exact ⟨rfl, k9.trans (j10.mono k9.size)⟩
            · have n1 : ((a.length : Int) != (b.length : Int)) = true := by simp; omega
              have n2 : (a.length != b.length) = true := by simp [hab]
              clear hab Cfl
              go_wp2
              go_ret
              exact ⟨rfl, k9⟩
      · have t1 : decide (x ≤ 0) = false := by simp; omega
        go_enter Tryd.func3, Tryd.ntmps3
        go_wp2_with fail
        go_quiet (fail)
        have hb2 := below_drewN hbx nq
        have hb3 := hb2.alloc (by simp) (.cells #[.slice A0 a.length c0, .slice A1 b.length c1, .slice A2 c.length c2] 23)
        have hfew := law_few (some ⟨w.heap.size + 1, 0, none⟩) 3 [a, b, c] _ (rowsAt3 (ha.below hb3) (hb.below hb3) (hc.below hb3) (by have := heap1 (((w.alloc (.cells #[.slice A0 a.length c0, .slice A1 b.length c1, .slice A2 c.length c2] 24))).drewN nq) (.cells #[.slice A0 a.length c0, .slice A1 b.length c1, .slice A2 c.length c2] 23); simpa using this)) (by simp) HF.out
        have Hfew := hid hfew
        clear hfew
        go_wp2_with fail
        refine (Hfew.out).mono ?_
        rintro e w3 ⟨rfl, hb4⟩
        have k3 := hb3.trans (hb4.mono hb3.size)
        clear hb4 hb3 hb2 Hfew ht ha hb hc hd
        go_wp2_with fail
        refine ((Cab _ k3).out).mono ?_
        rintro e w4 ⟨rfl, j4⟩
        have k4 := k3.trans (j4.mono k3.size)
        clear j4 k3
        go_wp2_with fail
        refine ((Cbc _ k4).out).mono ?_
        rintro e w5 ⟨rfl, j5⟩
        have k5 := k4.trans (j5.mono k4.size)
        clear j5 k4
        go_wp2_with fail
        refine ((Cac _ k5).out).mono ?_
        rintro e w6 ⟨rfl, j6⟩
        have k6 := k5.trans (j6.mono k5.size)
        clear j6 k5
        go_wp2_with fail
        refine ((Cba _ k6).out).mono ?_
        rintro e w7 ⟨rfl, j7⟩
        have k7 := k6.trans (j7.mono k6.size)
        clear j7 k6
        go_wp2_with fail
        refine ((Caa _ k7).out).mono ?_
        rintro e w8 ⟨rfl, j8⟩
        have k8 := k7.trans (j8.mono k7.size)
        clear j8 k7
        go_wp2_with fail
        refine ((Ceq _ k8).out).mono ?_
        rintro e w9 ⟨rfl, j9⟩
        have k9 := k8.trans (j9.mono k8.size)
        clear j9 k8
        go_wp2_with fail
        go_loopw [11, 91] (fun v i wr => ∃ k : Nat, k ≤ a.length ∧ i = .int .i64 k ∧ wr.ownsRow w.heap.size 4 1 v k ((flipD d k).map Value.bool) ∧ Below w.heap.size w wr) (fun _ i _ => a.length - (intOf i).toNat)
        case atStart => exact ⟨0, by omega, rfl, World.ownsRow_nil _ _ _ _, k9⟩
        case round =>
          obtain ⟨k, hk, rfl, hown, hbel⟩ := hrel
          have hsz := hbel.size
          by_cases hlt : k < a.length
          · have HS := hid (flipD_succ d k)
            by_cases hkd : k < d.length
            · have hd := HD.out
              obtain ⟨bd, od, rfl, hdc⟩ := hd (by omega)
              have f0 := hdc k hkd
              rw [← hbel.cell (cell_lt f0)] at f0
              have hgd : d.getD k false = d[k] := by simp [List.getD, hkd]
              have HG := hid hgd
              have dk : decide (d.length ≤ k) = false := by simp; omega
              generalize d[k] = q at *
              clear hdc hgd hd HD
              go_wp2_with (at_builtin; refine wpList_append_new Tryd.underlying25 hi hz0 hz1 hz2 rfl (by decide) (by decide) rfl rfl rfl hown rfl rfl rfl (by omega) hsz ?_; intro v2 w9 hown2 hg2)
              go_roundw
              case rel => exact ⟨k + 1, by omega, by go_num, by rw [HS.out, List.map_append, HG.out]; exact hown2, hbel.trans (grown_below hown hg2 hsz)⟩
              case measure => simp [intOf]; omega
            · have HG : Hid (d.getD k false = false) := hid (by simp [List.getD, show ¬ k < d.length from hkd])
              go_wp2_with (at_builtin; refine wpList_append_new Tryd.underlying25 hi hz0 hz1 hz2 rfl (by decide) (by decide) rfl rfl rfl hown rfl rfl rfl (by omega) hsz ?_; intro v2 w9 hown2 hg2)
              go_roundw
              case rel => exact ⟨k + 1, by omega, by go_num, by rw [HS.out, List.map_append, HG.out]; exact hown2, hbel.trans (grown_below hown hg2 hsz)⟩
              case measure => simp [intOf]; omega
          · have ek : k = (flipD d a.length).length := by rw [flipD_length]; omega
            have ek2 : k = a.length := by omega
            have hown2 : wr.ownsRow w.heap.size 4 1 u11 (flipD d a.length).length ((flipD d a.length).map Value.bool) := by rw [← ek, ← ek2]; exact hown
            obtain ⟨F, nf, rfl, hFl⟩ := own_bools hown2
            have hcap := hid ek
            clear hown hown2 ek ek2
            go_wp2_with fail
            refine ((Haw' _ hbel).out).mono ?_
            rintro e w9 ⟨rfl, j9⟩
            have hFl2 := hFl.below j9
            have k9 := hbel.trans (j9.mono hbel.size)
            clear hFl j9
            by_cases hab : a.length = b.length
            · have Cf := Cfl hab F nf _ k9 hFl2
              have n1 : ((a.length : Int) != (b.length : Int)) = false := by simp [hab]
              have n2 : (a.length != b.length) = false := by simp [hab]
              clear hab Cfl
              go_wp2_with fail
              refine (Cf.out).mono ?_
              rintro e w10 ⟨rfl, j10⟩
              go_wp2
              go_ret
              exact ⟨rfl, k9.trans (j10.mono k9.size)⟩
            · have n1 : ((a.length : Int) != (b.length : Int)) = true := by simp; omega
              have n2 : (a.length != b.length) = true := by simp [hab]
              clear hab Cfl
              go_wp2
              go_ret
              exact ⟨rfl, k9⟩
      · have t1 : decide (x ≤ 0) = true := by simpa using s1
        have t2 : decide (y ≤ 0) = false := by simp; omega
        go_enter Tryd.func3, Tryd.ntmps3
        go_wp2_with fail
        go_quiet (fail)
        have hb2 := below_drewN hbx nq
        have hb3 := hb2.alloc (by simp) (.cells #[.slice A0 a.length c0, .slice A1 b.length c1, .slice A2 c.length c2] 23)
        have hfew := law_few (some ⟨w.heap.size + 1, 0, none⟩) 3 [a, b, c] _ (rowsAt3 (ha.below hb3) (hb.below hb3) (hc.below hb3) (by have := heap1 (((w.alloc (.cells #[.slice A0 a.length c0, .slice A1 b.length c1, .slice A2 c.length c2] 24))).drewN nq) (.cells #[.slice A0 a.length c0, .slice A1 b.length c1, .slice A2 c.length c2] 23); simpa using this)) (by simp) HF.out
        have Hfew := hid hfew
        clear hfew
        go_wp2_with fail
        refine (Hfew.out).mono ?_
        rintro e w3 ⟨rfl, hb4⟩
        have k3 := hb3.trans (hb4.mono hb3.size)
        clear hb4 hb3 hb2 Hfew ht ha hb hc hd
        go_wp2_with fail
        refine ((Cab _ k3).out).mono ?_
        rintro e w4 ⟨rfl, j4⟩
        have k4 := k3.trans (j4.mono k3.size)
        clear j4 k3
        go_wp2_with fail
        refine ((Cbc _ k4).out).mono ?_
        rintro e w5 ⟨rfl, j5⟩
        have k5 := k4.trans (j5.mono k4.size)
        clear j5 k4
        go_wp2_with fail
        refine ((Cac _ k5).out).mono ?_
        rintro e w6 ⟨rfl, j6⟩
        have k6 := k5.trans (j6.mono k5.size)
        clear j6 k5
        go_wp2_with fail
        refine ((Cba _ k6).out).mono ?_
        rintro e w7 ⟨rfl, j7⟩
        have k7 := k6.trans (j7.mono k6.size)
        clear j7 k6
        go_wp2_with fail
        refine ((Caa _ k7).out).mono ?_
        rintro e w8 ⟨rfl, j8⟩
        have k8 := k7.trans (j8.mono k7.size)
        clear j8 k7
        go_wp2_with fail
        refine ((Ceq _ k8).out).mono ?_
        rintro e w9 ⟨rfl, j9⟩
        have k9 := k8.trans (j9.mono k8.size)
        clear j9 k8
        go_wp2_with fail
        go_loopw [11, 91] (fun v i wr => ∃ k : Nat, k ≤ a.length ∧ i = .int .i64 k ∧ wr.ownsRow w.heap.size 4 1 v k ((flipD d k).map Value.bool) ∧ Below w.heap.size w wr) (fun _ i _ => a.length - (intOf i).toNat)
        case atStart => exact ⟨0, by omega, rfl, World.ownsRow_nil _ _ _ _, k9⟩
        case round =>
          obtain ⟨k, hk, rfl, hown, hbel⟩ := hrel
          have hsz := hbel.size
          by_cases hlt : k < a.length
          · have HS := hid (flipD_succ d k)
            by_cases hkd : k < d.length
            · have hd := HD.out
              obtain ⟨bd, od, rfl, hdc⟩ := hd (by omega)
              have f0 := hdc k hkd
              rw [← hbel.cell (cell_lt f0)] at f0
              have hgd : d.getD k false = d[k] := by simp [List.getD, hkd]
              have HG := hid hgd
              have dk : decide (d.length ≤ k) = false := by simp; omega
              generalize d[k] = q at *
              clear hdc hgd hd HD
              go_wp2_with (at_builtin; refine wpList_append_new Tryd.underlying25 hi hz0 hz1 hz2 rfl (by decide) (by decide) rfl rfl rfl hown rfl rfl rfl (by omega) hsz ?_; intro v2 w9 hown2 hg2)
              go_roundw
              case rel => exact ⟨k + 1, by omega, by go_num, by rw [HS.out, List.map_append, HG.out]; exact hown2, hbel.trans (grown_below hown hg2 hsz)⟩
              case measure => simp [intOf]; omega
            · have HG : Hid (d.getD k false = false) := hid (by simp [List.getD, show ¬ k < d.length from hkd])
              go_wp2_with (at_builtin; refine wpList_append_new Tryd.underlying25 hi hz0 hz1 hz2 rfl (by decide) (by decide) rfl rfl rfl hown rfl rfl rfl (by omega) hsz ?_; intro v2 w9 hown2 hg2)
              go_roundw
              case rel => exact ⟨k + 1, by omega, by go_num, by rw [HS.out, List.map_append, HG.out]; exact hown2, hbel.trans (grown_below hown hg2 hsz)⟩
              case measure => simp [intOf]; omega
          · have ek : k = (flipD d a.length).length := by rw [flipD_length]; omega
            have ek2 : k = a.length := by omega
            have hown2 : wr.ownsRow w.heap.size 4 1 u11 (flipD d a.length).length ((flipD d a.length).map Value.bool) := by rw [← ek, ← ek2]; exact hown
            obtain ⟨F, nf, rfl, hFl⟩ := own_bools hown2
            have hcap := hid ek
            clear hown hown2 ek ek2
            go_wp2_with fail
            refine ((Haw' _ hbel).out).mono ?_
            rintro e w9 ⟨rfl, j9⟩
            have hFl2 := hFl.below j9
            have k9 := hbel.trans (j9.mono hbel.size)
            clear hFl j9
            by_cases hab : a.length = b.length
            · have Cf := Cfl hab F nf _ k9 hFl2
              have n1 : ((a.length : Int) != (b.length : Int)) = false := by simp [hab]
              have n2 : (a.length != b.length) = false := by simp [hab]
              clear hab Cfl
              go_wp2_with fail
              refine (Cf.out).mono ?_
              rintro e w10 ⟨rfl, j10⟩
              go_wp2
              go_ret
              exact ⟨rfl, k9.trans (j10.mono k9.size)⟩
            · have n1 : ((a.length : Int) != (b.length : Int)) = true := by simp; omega
              have n2 : (a.length != b.length) = true := by simp [hab]
              clear hab Cfl
              go_wp2
              go_ret
              exact ⟨rfl, k9⟩
    · go_enter Tryd.func3, Tryd.ntmps3
      go_wp2_with fail
      go_quiet (fail)
      have hb2 := below_drewN hbx nq
      have hb3 := hb2.alloc (by simp) (.cells #[.slice A0 a.length c0, .slice A1 b.length c1, .slice A2 c.length c2] 23)
      have hfew := law_few (some ⟨w.heap.size + 1, 0, none⟩) 3 [a, b, c] _ (rowsAt3 (ha.below hb3) (hb.below hb3) (hc.below hb3) (by have := heap1 (((w.alloc (.cells #[.slice A0 a.length c0, .slice A1 b.length c1, .slice A2 c.length c2] 24))).drewN nq) (.cells #[.slice A0 a.length c0, .slice A1 b.length c1, .slice A2 c.length c2] 23); simpa using this)) (by simp) HF.out
      have Hfew := hid hfew
      clear hfew
      go_wp2_with fail
      refine (Hfew.out).mono ?_
      rintro e w3 ⟨rfl, hb4⟩
      have hbel := hb3.trans (hb4.mono hb3.size)
      have Ht := hid (ht.below hbel)
      clear hb4 hb3 hb2 Hfew ht ha hb hc hd
      go_wp2_with fail
      refine ((Haw _ Ht.out).out).mono ?_
      rintro e w4 ⟨rfl, hb5⟩
      go_wp2
      go_ret
      exact ⟨rfl, hbel.trans (hb5.mono hbel.size)⟩
end Go.Proofs.YtkoajdbijlpgaaaDoor
