/-
  PARTS of a claim, merged by segs.py: Ps8.
-/
import Derived.Test.YtnbacdmlaedppaaGreatDoorQ61
namespace Go.Proofs.YtnbacdmlaedppaaGreatDoor

/-! ### Ps8 -/
section
open Go.RowKit

def headI (tk : Nat → Tok) (n i : Nat) : Out Qry :=
  if (tk i).k ≠ 1 ∨ (tk i).t ≠ sAns then .bad i
  else if isT (tk (i + 1)) sOpen = false then .bad (i + 1)
  else if (tk (i + 2)).k = 1 then match namesS tk n (i + 2) [] with
    | .bad e => .bad e
    | .ok h nx => semiS tk nx ⟨h, 0, [], [], []⟩
  else semiS tk (i + 2) ⟨[], 0, [], [], []⟩
theorem headI_eq (tk : Nat → Tok) (n : Nat) : headI tk n 0 = headG tk n := rfl
theorem aggS_keep {tk : Nat → Tok} {i nx : Nat} {q q' : Qry} (e : aggG tk i q = .ok q' nx) : q'.head = q.head := by
  unfold aggG at e
  split at e
  · injection e with e1 e2; rw [← e1]
  · split at e
    · cases e
    · split at e
      · cases e
      · injection e with e1 e2; rw [← e1]
def RetHd (w : World) (o : Out Qry) (e : Ending) (w' : World) : Prop := (match o with
  | .bad b => ∃ (H : Option Addr) (n c : Nat) (a nx : Int) (s : ByteArray), e = .returned (.tuple #[.agg (hdC H n c a s), .int .i64 nx, .int .i64 b])
  | .ok q nx => ∃ (H : Option Addr) (c : Nat), e = .returned (.tuple #[.agg (hdC H q.head.length c q.agg ⟨q.aggVar.toArray⟩), .int .i64 nx, .int .i64 (-1)]) ∧ w'.ownsRow w.heap.size 9 1 (.slice H q.head.length c) q.head.length (q.head.map nmV)) ∧ Below w.heap.size w w'
theorem RefTk.cells2 {w : World} {b o : Nat} {L : List Tok} (h : RefTk w (some ⟨b, o, none⟩) L) {i : Nat} (hi : i < L.length + 3) :
    w.cell? ⟨b, o + i * 6, none⟩ = some (.int .i64 (tkL L i).k) ∧ w.cell? ⟨b, o + i * 6 + 1, none⟩ = some (.string ⟨(tkL L i).t.toArray⟩) := by
  obtain ⟨b', o', e, h0, h1⟩ := h.cells hi
  injection e with e
  injection e with e1 e2
  subst e1 e2
  exact ⟨h0, h1⟩

set_option maxRecDepth 100000 in
set_option maxHeartbeats 4000000 in
theorem ref_head (A : Option Addr) (c n i : Nat) (L : List Tok) (w : World) (hT : RefTk w A L) (hi : i = 0) (hn : n = L.length + 3) {x : Out Qry} (hx : headI (tkL L) L.length i = x) :
    Calls Tryz.prog 51 #[.slice A n c, .int .i64 i] w (RetHd w x) := by
  have hil : i < L.length := by have := hT.ended.pos; omega
  obtain ⟨b, o, rfl, t0, t1⟩ := hT.cells (show i < L.length + 3 by omega)
  obtain ⟨wA, hwA⟩ : ∃ wA, wA = (w.alloc (hdO none 0 0 0 ⟨#[]⟩)).alloc (hdO none 0 0 0 ⟨#[]⟩) := ⟨_, rfl⟩
  have hszA : wA.heap.size = w.heap.size + 1 + 1 := by rw [hwA]; simp
  have k0 : Below w.heap.size w wA := by rw [hwA]; exact ((Below.refl _ _).alloc (Nat.le_refl _) _).alloc (by simp) _
  have p0 : wA.heap[w.heap.size]? = some (hdO none 0 0 0 ⟨#[]⟩) := by rw [hwA]; exact (Below.heap_alloc _ _ _ (by simp)).trans (heap_alloc_new w _)
  have q0 : wA.heap[w.heap.size + 1]? = some (hdO none 0 0 0 ⟨#[]⟩) := by
    rw [hwA]
    have := heap_alloc_new (w.alloc (hdO none 0 0 0 ⟨#[]⟩)) (hdO none 0 0 0 ⟨#[]⟩)
    rwa [World.size_alloc] at this
  have HIs := hid (fun (W : World) (kW : Below w.heap.size w W) (s : Str) (j : Nat) (hj : j < L.length + 3) (z : Bool) (hz : isT (tkL L j) s = z) => ref_is (some ⟨b, o, none⟩) c n j L s W (hT.below kW) hj hn hz)
  have HTk := hid (fun (W : World) (kW : Below w.heap.size w W) (j : Nat) (hj : j < L.length + 3) => (hT.below kW).cells2 hj)
  have HA := hid (fun (W : World) (kW : Below w.heap.size w W) (H : Option Addr) (nh ch : Nat) (h : List Str) (j : Nat) (hj : j < L.length) (o' : Out Qry) (ho : aggG (tkL L) j ⟨h, 0, [], [], []⟩ = o') => ref_aggregate (some ⟨b, o, none⟩) c n j L H nh ch h W (hT.below kW) hj hn ho)
  have HNm := hid (fun (W : World) (kW : Below w.heap.size w W) (j : Nat) (hj : j < L.length) (o' : Out (List Str)) (ho : namesS (tkL L) L.length j [] = o') => ref_names (some ⟨b, o, none⟩) c n j L W (hT.below kW) hj hn ho)
  have hE := hid hT.ended
  have hL := hT.few
  have hln : L.length + 3 ≤ n := by omega
  have t0A := cell_keep (w' := wA) (k0.mono (Nat.le_refl _)) t0
  have t1A := cell_keep (w' := wA) (k0.mono (Nat.le_refl _)) t1
  have HwA := hid hwA
  have c0 := box_cell q0 0
  have c1 := box_cell q0 1
  have c2 := box_cell q0 2
  have c3 := box_cell q0 3
  have c4 := box_cell q0 4
  have s0 : w.heap.size + 1 + 1 ≤ wA.heap.size := by omega
  unfold headI at hx
  have HX := hid hx
  clear hT hx hn t0 t1
  by_cases hk : (tkL L i).k = 1
  · by_cases ht : (tkL L i).t = sAns
    · have hj1 : i + 1 < L.length := hE.out.one hk
      rw [hk, hwA] at t0A
      rw [ht, hwA] at t1A
      have hin : i < n := by omega
      have hS := HX.out
      rw [if_neg (by rw [hk, ht]; simp)] at hS
      clear hk ht HX
      have H1 := hid (fun z hz => HIs.out wA k0 sOpen (i + 1) (by omega) z hz)
      obtain ⟨z, hz⟩ : ∃ z, isT (tkL L (i + 1)) sOpen = z := ⟨_, rfl⟩
      have E0 := hid (H1.out z hz)
      rw [show (((i + 1 : Nat)) : Int) = (i : Int) + 1 by omega] at E0
      rw [hz] at hS
      have HS0 := hid hS
      have hO := World.ownsRow_nil wA (w.heap.size + 1 + 1) 9 1
      have O0 := hid hO
      have Hz := hid hz
      clear H1 hz hS hO
      have hpos : (tkL L i).k = (tkL L i).k := rfl
      clear hpos hi
      go_enter Tryz.func51, Tryz.ntmps51
      go_wp2_with fail
      rw [← HwA.out]
      clear hwA HwA
      refine E0.out.mono ?_
      rintro e w1 ⟨rfl, b1⟩
      have k1 := k0.trans (b1.mono k0.size)
      have p1 := (b1.block w.heap.size (by omega)).trans p0
      have q1 := (b1.block (w.heap.size + 1) (by omega)).trans q0
      have O1 := hid (own_belowS O0.out b1)
      have s1 : w.heap.size + 1 + 1 ≤ w1.heap.size := by have := b1.size; omega
      clear b1 E0 p0 q0 O0
      clear t0A t1A c0 c1 c2 c3 c4
      have hS := HS0.out
      clear HS0
      cases z with
      | false =>
        rw [if_pos rfl] at hS
        subst hS
        have c0 := box_cell q1 0
        have c1 := box_cell q1 1
        have c2 := box_cell q1 2
        have c3 := box_cell q1 3
        have c4 := box_cell q1 4
        have f0 := box_free q1 0
        go_wp2_with (refine wpList_store_res rfl rfl rfl rfl p1 infoQyP rfl rfl ?_; intro w9 hz9 hb9)
        refine bodyPost_ret (by simp [results, Tryz.results51, go_sem, cell_res hz9]; rfl) rfl ?_
        exact ⟨⟨_, _, _, _, _, _, by rfl⟩, k1.trans (hb9.mono (by omega))⟩
      | true =>
        rw [if_neg (by decide)] at hS
        have hj2 : i + 2 < L.length := hE.out.isT Hz.out
        obtain ⟨j2, hj2'⟩ : ∃ j2, j2 = i + 2 := ⟨_, rfl⟩
        rw [← hj2'] at hS
        have ej : (i : Int) + 2 = (j2 : Int) := by omega
        have r2 : IntKind.i64.wrap ((i : Int) + 2) = (j2 : Int) := by rw [IntKind.wrap_i64]; omega
        have hj : j2 < L.length := by omega
        have hjn : j2 < n := by omega
        obtain ⟨t0, t1⟩ := HTk.out w1 k1 j2 (by omega)
        clear Hz hj2 hj2'
        by_cases hk : (tkL L j2).k = 1
        · rw [if_pos hk] at hS
          rw [hk] at t0
          obtain ⟨on, hon⟩ : ∃ on, namesS (tkL L) L.length j2 [] = on := ⟨_, rfl⟩
          have HN := hid (HNm.out w1 k1 j2 hj on hon)
          rw [hon] at hS
          have HS1 := hid hS
          have Hnx := hid (fun l nx (e : on = .ok l nx) => (namesS_nx hE.out (hon.trans e)).2)
          clear hS hon hk
          generalize tkL L j2 = tj at *
          go_wp2_with fail
          refine HN.out.mono ?_
          rintro e w2 hm
          have hS := HS1.out
          clear HS1 HN t0 t1
          cases on with
          | bad eb =>
            obtain ⟨rfl, b2⟩ := hm
            simp only at hS
            subst hS
            have k2 := k1.trans (b2.mono k1.size)
            have p2 := (b2.block w.heap.size (by omega)).trans p1
            have q2 := (b2.block (w.heap.size + 1) (by omega)).trans q1
            clear p1 q1
            have c0 := box_cell q2 0
            have c1 := box_cell q2 1
            have c2 := box_cell q2 2
            have c3 := box_cell q2 3
            have c4 := box_cell q2 4
            have f0 := box_free q2 0
            go_wp2_with (refine wpList_store_res rfl rfl rfl rfl p2 infoQyP rfl rfl ?_; intro w9 hz9 hb9)
            refine bodyPost_ret (by simp [results, Tryz.results51, go_sem, cell_res hz9]; rfl) rfl ?_
            exact ⟨⟨_, _, _, _, _, _, by rfl⟩, k2.trans (hb9.mono (by omega))⟩
          | ok h j =>
            obtain ⟨u, rfl, hown, b2⟩ := hm
            simp only at hS
            obtain ⟨Hh, ch, rfl⟩ := own_shape hown
            have hj' := Hnx.out h j rfl
            have k2 := k1.trans (b2.mono k1.size)
            have p2 := (b2.block w.heap.size (by omega)).trans p1
            have q2 := (b2.block (w.heap.size + 1) (by omega)).trans q1
            have s2 : w.heap.size + 1 + 1 ≤ w2.heap.size := by have := b2.size; omega
            have O2 := hid (ren_mono hown (show w.heap.size + 1 + 1 ≤ w1.heap.size by omega))
            clear p1 q1 O1 Hnx hown b2 ej r2 hj hjn
            have hj := hj'
            have c0 := box_cell q2 0
            have f0 := box_free q2 0
            have HS := hid hS
            clear hS hj'
            go_upto_region 13 with fail
            have hg3 := ren_set w2 (w.heap.size + 1) 0 (.slice Hh h.length ch)
            have q3 := box_set q2 0 (.slice Hh h.length ch)
            have p3 := (hg3.block w.heap.size (by omega) (by simp)).trans p2
            have k3 := k2.trans (grown_below' hg3 (by omega) (by omega))
            have s3 : w.heap.size + 1 + 1 ≤ (w2.setCell ⟨w.heap.size + 1, 0, none⟩ (.slice Hh h.length ch)).heap.size := by have := hg3.size; omega
            have O3 := hid (ren_far O2.out hg3 (by omega))
            clear p2 q2 O2 hg3 c0 f0
            generalize w2.setCell ⟨w.heap.size + 1, 0, none⟩ (.slice Hh h.length ch) = w3 at *
            have q3 : w3.heap[w.heap.size + 1]? = some (hdO Hh h.length ch 0 ⟨#[]⟩) := q3
            have hS := HS.out
            unfold semiS at hS
            obtain ⟨z0, hz0⟩ : ∃ z, isT (tkL L (j)) sSemi = z := ⟨_, rfl⟩
            have E0 := hid (HIs.out w3 k3 sSemi (j) (by omega) z0 hz0)
            rw [hz0] at hS
            cases z0 with
            | false =>
              rw [if_neg (by decide)] at hS
              have HS1 := hid hS
              clear HS hS hz0
              have HS := HS1
              clear HS1
              go_wp2_with fail
              refine E0.out.mono ?_
              rintro e w4 ⟨rfl, b4⟩
              have k4 := k3.trans (b4.mono k3.size)
              have p4 := (b4.block w.heap.size (by omega)).trans p3
              have q4 := (b4.block (w.heap.size + 1) (by omega)).trans q3
              have O4 := hid (own_belowS O3.out b4)
              have s4 : w.heap.size + 1 + 1 ≤ w4.heap.size := by have := b4.size; omega
              clear b4 E0 p3 q3 O3
              have hS := HS.out
              unfold endS at hS
              obtain ⟨z1, hz1⟩ : ∃ z, isT (tkL L (j)) sShut = z := ⟨_, rfl⟩
              have E1 := hid (HIs.out w4 k4 sShut (j) (by omega) z1 hz1)
              rw [hz1] at hS
              cases z1 with
              | false =>
                rw [if_neg (by decide)] at hS
                subst hS
                clear hz1
                go_wp2_with fail
                refine E1.out.mono ?_
                rintro e w5 ⟨rfl, b5⟩
                have k5 := k4.trans (b5.mono k4.size)
                have p5 := (b5.block w.heap.size (by omega)).trans p4
                have q5 := (b5.block (w.heap.size + 1) (by omega)).trans q4
                have O5 := hid (own_belowS O4.out b5)
                have s5 : w.heap.size + 1 + 1 ≤ w5.heap.size := by have := b5.size; omega
                clear b5 E1 p4 q4 O4
                have c0 := box_cell q5 0
                have c1 := box_cell q5 1
                have c2 := box_cell q5 2
                have c3 := box_cell q5 3
                have c4 := box_cell q5 4
                have f0 := box_free q5 0
                go_wp2_with (refine wpList_store_res rfl rfl rfl rfl p5 infoQyP rfl rfl ?_; intro w9 hz9 hb9)
                refine bodyPost_ret (by simp [results, Tryz.results51, go_sem, cell_res hz9]; rfl) rfl ?_
                exact ⟨⟨_, _, _, _, _, _, by rfl⟩, k5.trans (hb9.mono (by omega))⟩
              | true =>
                rw [if_pos rfl] at hS
                have hj1 : j + 1 < L.length := hE.out.isT hz1
                obtain ⟨z2, hz2⟩ : ∃ z, isT (tkL L (j + 1)) sIf = z := ⟨_, rfl⟩
                rw [hz2] at hS
                have HS2 := hid hS
                clear hS HS hz1
                go_wp2_with fail
                refine E1.out.mono ?_
                rintro e w5 ⟨rfl, b5⟩
                have k5 := k4.trans (b5.mono k4.size)
                have p5 := (b5.block w.heap.size (by omega)).trans p4
                have q5 := (b5.block (w.heap.size + 1) (by omega)).trans q4
                have O5 := hid (own_belowS O4.out b5)
                have s5 : w.heap.size + 1 + 1 ≤ w5.heap.size := by have := b5.size; omega
                clear b5 E1 p4 q4 O4
                have E2 := hid (HIs.out w5 k5 sIf (j + 1) (by omega) z2 hz2)
                clear hz2
                rw [show (((j + 1 : Nat)) : Int) = (j : Int) + 1 by omega] at E2
                go_wp2_with fail
                refine E2.out.mono ?_
                rintro e w6 ⟨rfl, b6⟩
                have k6 := k5.trans (b6.mono k5.size)
                have p6 := (b6.block w.heap.size (by omega)).trans p5
                have q6 := (b6.block (w.heap.size + 1) (by omega)).trans q5
                have O6 := hid (own_belowS O5.out b6)
                have s6 : w.heap.size + 1 + 1 ≤ w6.heap.size := by have := b6.size; omega
                clear b6 E2 p5 q5 O5
                have c0 := box_cell q6 0
                have c1 := box_cell q6 1
                have c2 := box_cell q6 2
                have c3 := box_cell q6 3
                have c4 := box_cell q6 4
                have f0 := box_free q6 0
                have hS := HS2.out
                clear HS2
                cases z2 with
                | false =>
                  rw [if_neg (by decide)] at hS
                  subst hS
                  go_wp2_with (refine wpList_store_res rfl rfl rfl rfl p6 infoQyP rfl rfl ?_; intro w9 hz9 hb9)
                  refine bodyPost_ret (by simp [results, Tryz.results51, go_sem, cell_res hz9]; rfl) rfl ?_
                  exact ⟨⟨_, _, _, _, _, _, by rfl⟩, k6.trans (hb9.mono (by omega))⟩
                | true =>
                  rw [if_pos rfl] at hS
                  subst hS
                  go_wp2_with (refine wpList_stored2 rfl rfl rfl rfl p6 infoQyP rfl rfl ?_; intro w9 hz9 hg9)
                  refine bodyPost_ret (by simp [results, Tryz.results51, go_sem, cell_res hz9]; rfl) rfl ?_
                  exact ⟨⟨_, _, by rfl, ren_mono (ren_far O6.out hg9 (by omega)) (by omega)⟩, k6.trans (grown_below' hg9 (by omega) (by omega))⟩
            | true =>
              rw [if_pos rfl] at hS
              have hj0 : j + 1 < L.length := hE.out.isT hz0
              obtain ⟨o, ho⟩ : ∃ o, aggG (tkL L) (j + 1) ⟨h, 0, [], [], []⟩ = o := ⟨_, rfl⟩
              rw [ho] at hS
              have HS1 := hid hS
              have HG := hid (fun q' nx (e : o = .ok q' nx) => And.intro (aggS_nx hE.out (ho.trans e)).2 (aggS_keep (ho.trans e)))
              clear HS hS hz0
              go_wp2_with fail
              refine E0.out.mono ?_
              rintro e w4 ⟨rfl, b4⟩
              have k4 := k3.trans (b4.mono k3.size)
              have p4 := (b4.block w.heap.size (by omega)).trans p3
              have q4 := (b4.block (w.heap.size + 1) (by omega)).trans q3
              have O4 := hid (own_belowS O3.out b4)
              have s4 : w.heap.size + 1 + 1 ≤ w4.heap.size := by have := b4.size; omega
              clear b4 E0 p3 q3 O3
              have c0 := box_cell q4 0
              have c1 := box_cell q4 1
              have c2 := box_cell q4 2
              have c3 := box_cell q4 3
              have c4 := box_cell q4 4
              have f0 := box_free q4 0
              have HAg := hid (HA.out w4 k4 Hh h.length ch h (j + 1) hj0 o ho)
              rw [show (((j + 1 : Nat)) : Int) = (j : Int) + 1 by omega] at HAg
              clear ho
              go_wp2_with fail
              refine HAg.out.mono ?_
              rintro e w5 ⟨hm, b5⟩
              have k5 := k4.trans (b5.mono k4.size)
              have p5 := (b5.block w.heap.size (by omega)).trans p4
              have q5 := (b5.block (w.heap.size + 1) (by omega)).trans q4
              have O5 := hid (own_belowS O4.out b5)
              have s5 : w.heap.size + 1 + 1 ≤ w5.heap.size := by have := b5.size; omega
              clear b5 HAg p4 q4 O4 c0 c1 c2 c3 c4 f0
              have hS := HS1.out
              clear HS1
              cases o with
              | bad eb =>
                obtain ⟨ga, gn, gs, rfl⟩ := hm
                simp only at hS
                subst hS
                have k6 : Below w.heap.size w (w5.alloc (hdO Hh h.length ch ga gs)) := k5.alloc k5.size _
                have p6 : (w5.alloc (hdO Hh h.length ch ga gs)).heap[w.heap.size]? = _ := (Below.heap_alloc _ _ _ (by omega)).trans p5
                have q6 : (w5.alloc (hdO Hh h.length ch ga gs)).heap[w.heap.size + 1]? = _ := (Below.heap_alloc _ _ _ (by omega)).trans q5
                clear p5 q5
                have c0 := box_cell q6 0
                have c1 := box_cell q6 1
                have c2 := box_cell q6 2
                have c3 := box_cell q6 3
                have c4 := box_cell q6 4
                have f0 := box_free q6 0
                go_wp2_with (refine wpList_store_res rfl rfl rfl rfl p6 infoQyP rfl rfl ?_; intro w9 hz9 hb9)
                refine bodyPost_ret (by simp [results, Tryz.results51, go_sem, cell_res hz9]; rfl) rfl ?_
                exact ⟨⟨_, _, _, _, _, _, by rfl⟩, k6.trans (hb9.mono (by omega))⟩
              | ok q' nx =>
                subst hm
                simp only at hS
                obtain ⟨hnx, hqh⟩ := HG.out q' nx rfl
                have k6 : Below w.heap.size w (w5.alloc (hdO Hh h.length ch q'.agg ⟨q'.aggVar.toArray⟩)) := k5.alloc k5.size _
                have p6 : (w5.alloc (hdO Hh h.length ch q'.agg ⟨q'.aggVar.toArray⟩)).heap[w.heap.size]? = _ := (Below.heap_alloc _ _ _ (by omega)).trans p5
                have q6 : (w5.alloc (hdO Hh h.length ch q'.agg ⟨q'.aggVar.toArray⟩)).heap[w.heap.size + 1]? = _ := (Below.heap_alloc _ _ _ (by omega)).trans q5
                have O6 := hid (own_belowS O5.out (below_one w5 (hdO Hh h.length ch q'.agg ⟨q'.aggVar.toArray⟩)))
                have s6 : (w5.alloc (hdO Hh h.length ch q'.agg ⟨q'.aggVar.toArray⟩)).heap.size = w5.heap.size + 1 := by simp
                have HS := hid hS
                have Hqh := hid hqh
                clear p5 q5 O5 hS HG hqh
                go_upto_region 19 with (refine wpList_stored2 rfl rfl rfl rfl q6 infoQyP rfl rfl ?_; intro w7 q7 hg7)
                have p7 := (hg7.block w.heap.size (by simp; omega) (by simp)).trans p6
                have k7 := k6.trans (grown_below' hg7 (by omega) (by simp; omega))
                have s7 : w.heap.size + 1 + 1 ≤ w7.heap.size := by have := hg7.size; simp at this; omega
                have O7 := hid (ren_far O6.out hg7 (by omega))
                clear p6 q6 O6 hg7 hj0
                have hj : nx < L.length := hnx
                clear hnx
                have hS := HS.out
                unfold endS at hS
                obtain ⟨z1, hz1⟩ : ∃ z, isT (tkL L (nx)) sShut = z := ⟨_, rfl⟩
                have E1 := hid (HIs.out w7 k7 sShut (nx) (by omega) z1 hz1)
                rw [hz1] at hS
                cases z1 with
                | false =>
                  rw [if_neg (by decide)] at hS
                  subst hS
                  clear hz1
                  go_wp2_with fail
                  refine E1.out.mono ?_
                  rintro e w8 ⟨rfl, b8⟩
                  have k8 := k7.trans (b8.mono k7.size)
                  have p8 := (b8.block w.heap.size (by omega)).trans p7
                  have q8 := (b8.block (w.heap.size + 1) (by omega)).trans q7
                  have O8 := hid (own_belowS O7.out b8)
                  have s8 : w.heap.size + 1 + 1 ≤ w8.heap.size := by have := b8.size; omega
                  clear b8 E1 p7 q7 O7
                  have c0 := box_cell q8 0
                  have c1 := box_cell q8 1
                  have c2 := box_cell q8 2
                  have c3 := box_cell q8 3
                  have c4 := box_cell q8 4
                  have f0 := box_free q8 0
                  go_wp2_with (refine wpList_store_res rfl rfl rfl rfl p8 infoQyP rfl rfl ?_; intro w9 hz9 hb9)
                  refine bodyPost_ret (by simp [results, Tryz.results51, go_sem, cell_res hz9]; rfl) rfl ?_
                  exact ⟨⟨_, _, _, _, _, _, by rfl⟩, k8.trans (hb9.mono (by omega))⟩
                | true =>
                  rw [if_pos rfl] at hS
                  have hj1 : nx + 1 < L.length := hE.out.isT hz1
                  obtain ⟨z2, hz2⟩ : ∃ z, isT (tkL L (nx + 1)) sIf = z := ⟨_, rfl⟩
                  rw [hz2] at hS
                  have HS2 := hid hS
                  clear hS HS hz1
                  go_wp2_with fail
                  refine E1.out.mono ?_
                  rintro e w8 ⟨rfl, b8⟩
                  have k8 := k7.trans (b8.mono k7.size)
                  have p8 := (b8.block w.heap.size (by omega)).trans p7
                  have q8 := (b8.block (w.heap.size + 1) (by omega)).trans q7
                  have O8 := hid (own_belowS O7.out b8)
                  have s8 : w.heap.size + 1 + 1 ≤ w8.heap.size := by have := b8.size; omega
                  clear b8 E1 p7 q7 O7
                  have E2 := hid (HIs.out w8 k8 sIf (nx + 1) (by omega) z2 hz2)
                  clear hz2
                  rw [show (((nx + 1 : Nat)) : Int) = (nx : Int) + 1 by omega] at E2
                  go_wp2_with fail
                  refine E2.out.mono ?_
                  rintro e w9 ⟨rfl, b9⟩
                  have k9 := k8.trans (b9.mono k8.size)
                  have p9 := (b9.block w.heap.size (by omega)).trans p8
                  have q9 := (b9.block (w.heap.size + 1) (by omega)).trans q8
                  have O9 := hid (own_belowS O8.out b9)
                  have s9 : w.heap.size + 1 + 1 ≤ w9.heap.size := by have := b9.size; omega
                  clear b9 E2 p8 q8 O8
                  have c0 := box_cell q9 0
                  have c1 := box_cell q9 1
                  have c2 := box_cell q9 2
                  have c3 := box_cell q9 3
                  have c4 := box_cell q9 4
                  have f0 := box_free q9 0
                  have hS := HS2.out
                  clear HS2
                  cases z2 with
                  | false =>
                    rw [if_neg (by decide)] at hS
                    subst hS
                    go_wp2_with (refine wpList_store_res rfl rfl rfl rfl p9 infoQyP rfl rfl ?_; intro w9 hz9 hb9)
                    refine bodyPost_ret (by simp [results, Tryz.results51, go_sem, cell_res hz9]; rfl) rfl ?_
                    exact ⟨⟨_, _, _, _, _, _, by rfl⟩, k9.trans (hb9.mono (by omega))⟩
                  | true =>
                    rw [if_pos rfl] at hS
                    subst hS
                    go_wp2_with (refine wpList_stored2 rfl rfl rfl rfl p9 infoQyP rfl rfl ?_; intro w9 hz9 hg9)
                    refine bodyPost_ret (by simp [results, Tryz.results51, go_sem, cell_res hz9]; rfl) rfl ?_
                    exact ⟨⟨_, _, by rw [Hqh.out]; rfl, by rw [Hqh.out]; exact ren_mono (ren_far O9.out hg9 (by omega)) (by omega)⟩, k9.trans (grown_below' hg9 (by omega) (by omega))⟩
        · rw [if_neg hk] at hS
          have dk : ((tkL L j2).k == 1) = false := by simpa using hk
          obtain ⟨h, hh⟩ : ∃ h : List Str, h = [] := ⟨_, rfl⟩
          obtain ⟨Hh, hHh⟩ : ∃ h : Option Addr, h = none := ⟨_, rfl⟩
          obtain ⟨ch, hch⟩ : ∃ h : Nat, h = 0 := ⟨_, rfl⟩
          have q1' : w1.heap[w.heap.size + 1]? = some (hdO Hh h.length ch 0 ⟨#[]⟩) := by rw [hh, hHh, hch]; exact q1
          have O1' : Hid (w1.ownsRow (w.heap.size + 1 + 1) 9 1 (.slice Hh h.length ch) h.length (h.map nmV)) := hid (by rw [hh, hHh, hch]; exact O1.out)
          rw [← hh] at hS
          have HS := hid hS
          clear hS q1 O1 hh hHh hch hk
          have q1 := q1'
          have O1 := O1'
          clear q1' O1'
          obtain ⟨tj, htj⟩ : ∃ t, tkL L j2 = t := ⟨_, rfl⟩
          rw [htj] at dk t0 t1
          clear htj
          generalize j2 = j at *
          go_upto_region 13 with fail
          clear t0 t1 dk ej r2
          have hS := HS.out
          unfold semiS at hS
          obtain ⟨z0, hz0⟩ : ∃ z, isT (tkL L (j)) sSemi = z := ⟨_, rfl⟩
          have E0 := hid (HIs.out w1 k1 sSemi (j) (by omega) z0 hz0)
          rw [hz0] at hS
          cases z0 with
          | false =>
            rw [if_neg (by decide)] at hS
            have HS1 := hid hS
            clear HS hS hz0
            have HS := HS1
            clear HS1
            go_wp2_with fail
            refine E0.out.mono ?_
            rintro e w2 ⟨rfl, b2⟩
            have k2 := k1.trans (b2.mono k1.size)
            have p2 := (b2.block w.heap.size (by omega)).trans p1
            have q2 := (b2.block (w.heap.size + 1) (by omega)).trans q1
            have O2 := hid (own_belowS O1.out b2)
            have s2 : w.heap.size + 1 + 1 ≤ w2.heap.size := by have := b2.size; omega
            clear b2 E0 p1 q1 O1
            have hS := HS.out
            unfold endS at hS
            obtain ⟨z1, hz1⟩ : ∃ z, isT (tkL L (j)) sShut = z := ⟨_, rfl⟩
            have E1 := hid (HIs.out w2 k2 sShut (j) (by omega) z1 hz1)
            rw [hz1] at hS
            cases z1 with
            | false =>
              rw [if_neg (by decide)] at hS
              subst hS
              clear hz1
              go_wp2_with fail
              refine E1.out.mono ?_
              rintro e w3 ⟨rfl, b3⟩
              have k3 := k2.trans (b3.mono k2.size)
              have p3 := (b3.block w.heap.size (by omega)).trans p2
              have q3 := (b3.block (w.heap.size + 1) (by omega)).trans q2
              have O3 := hid (own_belowS O2.out b3)
              have s3 : w.heap.size + 1 + 1 ≤ w3.heap.size := by have := b3.size; omega
              clear b3 E1 p2 q2 O2
              have c0 := box_cell q3 0
              have c1 := box_cell q3 1
              have c2 := box_cell q3 2
              have c3 := box_cell q3 3
              have c4 := box_cell q3 4
              have f0 := box_free q3 0
              go_wp2_with (refine wpList_store_res rfl rfl rfl rfl p3 infoQyP rfl rfl ?_; intro w9 hz9 hb9)
              refine bodyPost_ret (by simp [results, Tryz.results51, go_sem, cell_res hz9]; rfl) rfl ?_
              exact ⟨⟨_, _, _, _, _, _, by rfl⟩, k3.trans (hb9.mono (by omega))⟩
            | true =>
              rw [if_pos rfl] at hS
              have hj1 : j + 1 < L.length := hE.out.isT hz1
              obtain ⟨z2, hz2⟩ : ∃ z, isT (tkL L (j + 1)) sIf = z := ⟨_, rfl⟩
              rw [hz2] at hS
              have HS2 := hid hS
              clear hS HS hz1
              go_wp2_with fail
              refine E1.out.mono ?_
              rintro e w3 ⟨rfl, b3⟩
              have k3 := k2.trans (b3.mono k2.size)
              have p3 := (b3.block w.heap.size (by omega)).trans p2
              have q3 := (b3.block (w.heap.size + 1) (by omega)).trans q2
              have O3 := hid (own_belowS O2.out b3)
              have s3 : w.heap.size + 1 + 1 ≤ w3.heap.size := by have := b3.size; omega
              clear b3 E1 p2 q2 O2
              have E2 := hid (HIs.out w3 k3 sIf (j + 1) (by omega) z2 hz2)
              clear hz2
              rw [show (((j + 1 : Nat)) : Int) = (j : Int) + 1 by omega] at E2
              go_wp2_with fail
              refine E2.out.mono ?_
              rintro e w4 ⟨rfl, b4⟩
              have k4 := k3.trans (b4.mono k3.size)
              have p4 := (b4.block w.heap.size (by omega)).trans p3
              have q4 := (b4.block (w.heap.size + 1) (by omega)).trans q3
              have O4 := hid (own_belowS O3.out b4)
              have s4 : w.heap.size + 1 + 1 ≤ w4.heap.size := by have := b4.size; omega
              clear b4 E2 p3 q3 O3
              have c0 := box_cell q4 0
              have c1 := box_cell q4 1
              have c2 := box_cell q4 2
              have c3 := box_cell q4 3
              have c4 := box_cell q4 4
              have f0 := box_free q4 0
              have hS := HS2.out
              clear HS2
              cases z2 with
              | false =>
                rw [if_neg (by decide)] at hS
                subst hS
                go_wp2_with (refine wpList_store_res rfl rfl rfl rfl p4 infoQyP rfl rfl ?_; intro w9 hz9 hb9)
                refine bodyPost_ret (by simp [results, Tryz.results51, go_sem, cell_res hz9]; rfl) rfl ?_
                exact ⟨⟨_, _, _, _, _, _, by rfl⟩, k4.trans (hb9.mono (by omega))⟩
              | true =>
                rw [if_pos rfl] at hS
                subst hS
                go_wp2_with (refine wpList_stored2 rfl rfl rfl rfl p4 infoQyP rfl rfl ?_; intro w9 hz9 hg9)
                refine bodyPost_ret (by simp [results, Tryz.results51, go_sem, cell_res hz9]; rfl) rfl ?_
                exact ⟨⟨_, _, by rfl, ren_mono (ren_far O4.out hg9 (by omega)) (by omega)⟩, k4.trans (grown_below' hg9 (by omega) (by omega))⟩
          | true =>
            rw [if_pos rfl] at hS
            have hj0 : j + 1 < L.length := hE.out.isT hz0
            obtain ⟨o, ho⟩ : ∃ o, aggG (tkL L) (j + 1) ⟨h, 0, [], [], []⟩ = o := ⟨_, rfl⟩
            rw [ho] at hS
            have HS1 := hid hS
            have HG := hid (fun q' nx (e : o = .ok q' nx) => And.intro (aggS_nx hE.out (ho.trans e)).2 (aggS_keep (ho.trans e)))
            clear HS hS hz0
            go_wp2_with fail
            refine E0.out.mono ?_
            rintro e w2 ⟨rfl, b2⟩
            have k2 := k1.trans (b2.mono k1.size)
            have p2 := (b2.block w.heap.size (by omega)).trans p1
            have q2 := (b2.block (w.heap.size + 1) (by omega)).trans q1
            have O2 := hid (own_belowS O1.out b2)
            have s2 : w.heap.size + 1 + 1 ≤ w2.heap.size := by have := b2.size; omega
            clear b2 E0 p1 q1 O1
            have c0 := box_cell q2 0
            have c1 := box_cell q2 1
            have c2 := box_cell q2 2
            have c3 := box_cell q2 3
            have c4 := box_cell q2 4
            have f0 := box_free q2 0
            have HAg := hid (HA.out w2 k2 Hh h.length ch h (j + 1) hj0 o ho)
            rw [show (((j + 1 : Nat)) : Int) = (j : Int) + 1 by omega] at HAg
            clear ho
            go_wp2_with fail
            refine HAg.out.mono ?_
            rintro e w3 ⟨hm, b3⟩
            have k3 := k2.trans (b3.mono k2.size)
            have p3 := (b3.block w.heap.size (by omega)).trans p2
            have q3 := (b3.block (w.heap.size + 1) (by omega)).trans q2
            have O3 := hid (own_belowS O2.out b3)
            have s3 : w.heap.size + 1 + 1 ≤ w3.heap.size := by have := b3.size; omega
            clear b3 HAg p2 q2 O2 c0 c1 c2 c3 c4 f0
            have hS := HS1.out
            clear HS1
            cases o with
            | bad eb =>
              obtain ⟨ga, gn, gs, rfl⟩ := hm
              simp only at hS
              subst hS
              have k4 : Below w.heap.size w (w3.alloc (hdO Hh h.length ch ga gs)) := k3.alloc k3.size _
              have p4 : (w3.alloc (hdO Hh h.length ch ga gs)).heap[w.heap.size]? = _ := (Below.heap_alloc _ _ _ (by omega)).trans p3
              have q4 : (w3.alloc (hdO Hh h.length ch ga gs)).heap[w.heap.size + 1]? = _ := (Below.heap_alloc _ _ _ (by omega)).trans q3
              clear p3 q3
              have c0 := box_cell q4 0
              have c1 := box_cell q4 1
              have c2 := box_cell q4 2
              have c3 := box_cell q4 3
              have c4 := box_cell q4 4
              have f0 := box_free q4 0
              go_wp2_with (refine wpList_store_res rfl rfl rfl rfl p4 infoQyP rfl rfl ?_; intro w9 hz9 hb9)
              refine bodyPost_ret (by simp [results, Tryz.results51, go_sem, cell_res hz9]; rfl) rfl ?_
              exact ⟨⟨_, _, _, _, _, _, by rfl⟩, k4.trans (hb9.mono (by omega))⟩
            | ok q' nx =>
              subst hm
              simp only at hS
              obtain ⟨hnx, hqh⟩ := HG.out q' nx rfl
              have k4 : Below w.heap.size w (w3.alloc (hdO Hh h.length ch q'.agg ⟨q'.aggVar.toArray⟩)) := k3.alloc k3.size _
              have p4 : (w3.alloc (hdO Hh h.length ch q'.agg ⟨q'.aggVar.toArray⟩)).heap[w.heap.size]? = _ := (Below.heap_alloc _ _ _ (by omega)).trans p3
              have q4 : (w3.alloc (hdO Hh h.length ch q'.agg ⟨q'.aggVar.toArray⟩)).heap[w.heap.size + 1]? = _ := (Below.heap_alloc _ _ _ (by omega)).trans q3
              have O4 := hid (own_belowS O3.out (below_one w3 (hdO Hh h.length ch q'.agg ⟨q'.aggVar.toArray⟩)))
              have s4 : (w3.alloc (hdO Hh h.length ch q'.agg ⟨q'.aggVar.toArray⟩)).heap.size = w3.heap.size + 1 := by simp
              have HS := hid hS
              have Hqh := hid hqh
              clear p3 q3 O3 hS HG hqh
              go_upto_region 19 with (refine wpList_stored2 rfl rfl rfl rfl q4 infoQyP rfl rfl ?_; intro w5 q5 hg5)
              have p5 := (hg5.block w.heap.size (by simp; omega) (by simp)).trans p4
              have k5 := k4.trans (grown_below' hg5 (by omega) (by simp; omega))
              have s5 : w.heap.size + 1 + 1 ≤ w5.heap.size := by have := hg5.size; simp at this; omega
              have O5 := hid (ren_far O4.out hg5 (by omega))
              clear p4 q4 O4 hg5 hj0
              have hj : nx < L.length := hnx
              clear hnx
              have hS := HS.out
              unfold endS at hS
              obtain ⟨z1, hz1⟩ : ∃ z, isT (tkL L (nx)) sShut = z := ⟨_, rfl⟩
              have E1 := hid (HIs.out w5 k5 sShut (nx) (by omega) z1 hz1)
              rw [hz1] at hS
              cases z1 with
              | false =>
                rw [if_neg (by decide)] at hS
                subst hS
                clear hz1
                go_wp2_with fail
                refine E1.out.mono ?_
                rintro e w6 ⟨rfl, b6⟩
                have k6 := k5.trans (b6.mono k5.size)
                have p6 := (b6.block w.heap.size (by omega)).trans p5
                have q6 := (b6.block (w.heap.size + 1) (by omega)).trans q5
                have O6 := hid (own_belowS O5.out b6)
                have s6 : w.heap.size + 1 + 1 ≤ w6.heap.size := by have := b6.size; omega
                clear b6 E1 p5 q5 O5
                have c0 := box_cell q6 0
                have c1 := box_cell q6 1
                have c2 := box_cell q6 2
                have c3 := box_cell q6 3
                have c4 := box_cell q6 4
                have f0 := box_free q6 0
                go_wp2_with (refine wpList_store_res rfl rfl rfl rfl p6 infoQyP rfl rfl ?_; intro w9 hz9 hb9)
                refine bodyPost_ret (by simp [results, Tryz.results51, go_sem, cell_res hz9]; rfl) rfl ?_
                exact ⟨⟨_, _, _, _, _, _, by rfl⟩, k6.trans (hb9.mono (by omega))⟩
              | true =>
                rw [if_pos rfl] at hS
                have hj1 : nx + 1 < L.length := hE.out.isT hz1
                obtain ⟨z2, hz2⟩ : ∃ z, isT (tkL L (nx + 1)) sIf = z := ⟨_, rfl⟩
                rw [hz2] at hS
                have HS2 := hid hS
                clear hS HS hz1
                go_wp2_with fail
                refine E1.out.mono ?_
                rintro e w6 ⟨rfl, b6⟩
                have k6 := k5.trans (b6.mono k5.size)
                have p6 := (b6.block w.heap.size (by omega)).trans p5
                have q6 := (b6.block (w.heap.size + 1) (by omega)).trans q5
                have O6 := hid (own_belowS O5.out b6)
                have s6 : w.heap.size + 1 + 1 ≤ w6.heap.size := by have := b6.size; omega
                clear b6 E1 p5 q5 O5
                have E2 := hid (HIs.out w6 k6 sIf (nx + 1) (by omega) z2 hz2)
                clear hz2
                rw [show (((nx + 1 : Nat)) : Int) = (nx : Int) + 1 by omega] at E2
                go_wp2_with fail
                refine E2.out.mono ?_
                rintro e w7 ⟨rfl, b7⟩
                have k7 := k6.trans (b7.mono k6.size)
                have p7 := (b7.block w.heap.size (by omega)).trans p6
                have q7 := (b7.block (w.heap.size + 1) (by omega)).trans q6
                have O7 := hid (own_belowS O6.out b7)
                have s7 : w.heap.size + 1 + 1 ≤ w7.heap.size := by have := b7.size; omega
                clear b7 E2 p6 q6 O6
                have c0 := box_cell q7 0
                have c1 := box_cell q7 1
                have c2 := box_cell q7 2
                have c3 := box_cell q7 3
                have c4 := box_cell q7 4
                have f0 := box_free q7 0
                have hS := HS2.out
                clear HS2
                cases z2 with
                | false =>
                  rw [if_neg (by decide)] at hS
                  subst hS
                  go_wp2_with (refine wpList_store_res rfl rfl rfl rfl p7 infoQyP rfl rfl ?_; intro w9 hz9 hb9)
                  refine bodyPost_ret (by simp [results, Tryz.results51, go_sem, cell_res hz9]; rfl) rfl ?_
                  exact ⟨⟨_, _, _, _, _, _, by rfl⟩, k7.trans (hb9.mono (by omega))⟩
                | true =>
                  rw [if_pos rfl] at hS
                  subst hS
                  go_wp2_with (refine wpList_stored2 rfl rfl rfl rfl p7 infoQyP rfl rfl ?_; intro w9 hz9 hg9)
                  refine bodyPost_ret (by simp [results, Tryz.results51, go_sem, cell_res hz9]; rfl) rfl ?_
                  exact ⟨⟨_, _, by rw [Hqh.out]; rfl, by rw [Hqh.out]; exact ren_mono (ren_far O7.out hg9 (by omega)) (by omega)⟩, k7.trans (grown_below' hg9 (by omega) (by omega))⟩
    · have hS := HX.out
      rw [if_pos (.inr ht)] at hS
      subst hS
      rw [hk, hwA] at t0A
      rw [hwA] at t1A
      have hin : i < n := by omega
      have dt : (!((tkL L i).t == [97, 110, 115])) = true := by simpa [sAns] using ht
      generalize tkL L i = t at *
      clear hk ht HX hi
      go_enter Tryz.func51, Tryz.ntmps51
      go_wp2_with fail
      rw [← HwA.out]
      clear hwA HwA
      refine bodyPost_ret (by simp [results, Tryz.results51, go_sem, cell_res p0]; rfl) rfl ?_
      exact ⟨⟨_, _, _, _, _, _, by rfl⟩, k0⟩
  · have hS := HX.out
    rw [if_pos (.inl hk)] at hS
    subst hS
    rw [hwA] at t0A t1A
    have hin : i < n := by omega
    have dk : ((tkL L i).k != 1) = true := by simpa using hk
    generalize tkL L i = t at *
    clear hk HX hi
    go_enter Tryz.func51, Tryz.ntmps51
    go_wp2_with fail
    rw [← HwA.out]
    clear hwA HwA
    refine bodyPost_ret (by simp [results, Tryz.results51, go_sem, cell_res p0]; rfl) rfl ?_
    exact ⟨⟨_, _, _, _, _, _, by rfl⟩, k0⟩
end
end Go.Proofs.YtnbacdmlaedppaaGreatDoor
