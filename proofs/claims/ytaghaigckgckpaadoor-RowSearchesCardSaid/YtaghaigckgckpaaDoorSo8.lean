/-
  WALKS: slices.Clone at a row, row.clone, row.Sort.
-/
import Derived.Test.YtaghaigckgckpaaDoorSo7
import Derived.Test.YtaghaigckgckpaaDoorEls
namespace Go.Proofs.YtaghaigckgckpaaDoor
open Go.RowKit

theorem flat_cells {w : World} {b o : Nat} {r : List V} (hc : ∀ i (h : i < r.length), w.cell? ⟨b, o + i * 3, none⟩ = some (.int .i64 r[i].k) ∧ w.cell? ⟨b, o + i * 3 + 1, none⟩ = some (.int .i64 r[i].n) ∧ w.cell? ⟨b, o + i * 3 + 2, none⟩ = some (.string r[i].s)) :
    ∀ j u, (flat r)[j]? = some u → w.cell? ((⟨b, o, none⟩ : Addr).add j) = some u := by
  intro j u hj
  have hjl : j < (flat r).length := (List.getElem?_eq_some_iff.1 hj).1
  rw [flat_length] at hjl
  have hi : j / 3 < r.length := by omega
  obtain ⟨f0, f1, f2⟩ := flat_get r (j / 3) hi
  obtain ⟨c0, c1, c2⟩ := hc (j / 3) hi
  rw [Addr.add_lit]
  obtain e | e | e : j = j / 3 * 3 ∨ j = j / 3 * 3 + 1 ∨ j = j / 3 * 3 + 2 := by omega
  · rw [e] at hj
    rw [f0] at hj
    rw [show o + j = o + j / 3 * 3 by omega, c0]; exact hj
  · rw [e] at hj
    rw [f1] at hj
    rw [show o + j = o + j / 3 * 3 + 1 by omega, c1]; exact hj
  · rw [e] at hj
    rw [f2] at hj
    rw [show o + j = o + j / 3 * 3 + 2 by omega, c2]; exact hj
theorem flat_one (r : List V) : ∀ u ∈ flat r, u.oneCell' = true := by
  intro u hu
  obtain ⟨x, _, hx⟩ := List.mem_flatMap.1 hu
  simp only [List.mem_cons, List.not_mem_nil, or_false] at hx
  rcases hx with rfl | rfl | rfl <;> rfl

set_option maxRecDepth 100000 in
set_option maxHeartbeats 2000000 in
theorem clone_row (A : Option Addr) (c : Nat) (r : List V) (w : World) (hr : RowAt w A r) (hm : r.length ≤ 100000) :
    Calls Tryd.prog 25 #[.slice A r.length c] w (RetNew w r) := by
  obtain ⟨i0, hi, hz0, hz1, hz2⟩ := info_parts infoV
  have q22 : ∀ (w : World) (a : Option Addr) (n c n' c' : Nat), (binOp .eql 35 (.slice a n c) (.slice none n' c')).run Tryd.prog w = .ok (.bool a.isNone) w := fun w a n c n' c' => Lib.run_eql_slice_nil w _ _ a n c n' c' Tryd.underlying35
  cases A with
  | none =>
    have h0 : r = [] := by
      cases r with
      | nil => rfl
      | cons x r => obtain ⟨b, o, e, _⟩ := hr (by simp); cases e
    subst h0
    go_enter Tryd.func25, Tryd.ntmps25
    go_wp2
    go_ret
    exact ⟨none, 0, rfl, RowAt.nil, (fun ad e => nomatch e), Nat.le_refl _, Below.refl _ _⟩
  | some a =>
    have hl : ∀ j u, (flat r)[j]? = some u → w.cell? (a.add j) = some u := by
      intro j u hj
      have hjl : j < (flat r).length := (List.getElem?_eq_some_iff.1 hj).1
      rw [flat_length] at hjl
      obtain ⟨b, o, e, hc⟩ := hr (by omega)
      injection e with e
      subst e
      exact flat_cells hc j u hj
    have HL := hid hl
    clear hl hr
    go_enter Tryd.func25, Tryd.ntmps25
    go_wp2_with (at_builtin; refine wpList_append_own _ rfl _ _ 35 rfl w.heap.size 43 i0 (.agg #[.int .i64 0, .int .i64 0, .string ⟨#[]⟩]) 3 32 Tryd.underlying35 hi hz0 hz1 hz2 rfl (by decide) _ _ _ rfl (World.ownsRow_made w #[] 0 (Nat.le_refl _) (Nat.zero_le _) rfl) a r.length c (flat r) rfl ?qc1 ?qc2 ?qc3 ?qc4 ?qc5 ?qc6 ?_)
    case qc1 => exact flat_length r
    case qc2 =>
      intro j u hj
      exact Lib.cell?_alloc_some _ (HL.out j u hj)
    case qc3 => exact flat_one r
    case qc4 => unfold maxLen; omega
    case qc5 => omega
    case qc6 => simp
    intro v' w1 hown hgrow hnil
    have hb := ((Below.refl _ w).alloc (Nat.le_refl _) (Obj.cells #[] 43)).grown hgrow (by simp) (by intro k hk; simp [Value.ownBlock] at hk; omega)
    have hown2 : w1.ownsRow w.heap.size 43 3 v' r.length (flat r) := by simpa using hown
    obtain ⟨A', c', rfl, hrow, hnew, hcap⟩ := own_row_new hown2
    have HN := hid hnew
    have HC := hid hcap
    have HB := hid hb
    clear hown hown2 hgrow hnil hnew hcap hb
    go_wp2
    go_ret
    exact ⟨A', c', rfl, hrow, HN.out, HC.out, HB.out⟩

theorem infoRow : (Tryd.prog.info? 35).map (fun i => (i.zero, i.size, i.bytes)) = some (some (.slice none 0 0), 1, 24) := by kernel_rfl
theorem take_set1 {xs F : List Value} {m : Nat} (h : xs.take m = F) (hl : m < xs.length) (x : Value) : (xs.set m x).take (m + 1) = F ++ [x] := by
  rw [List.take_succ_eq_append_getElem (by simpa using hl), List.getElem_set_self, ← h]
  congr 1
  rw [List.take_set_of_le (Nat.le_refl _)]
/-- Rows in memory of their own, apart from the block g. -/
def NewRows (w : World) (g : Nat) (l : List El) : Prop := ∀ x ∈ l, RowAt w x.A x.r ∧ ∀ ad, x.A = some ad → ad.block ≠ g
theorem NewRows.below {w w' : World} {g : Nat} {l : List El} (h : NewRows w g l) (hb : Below w.heap.size w w') : NewRows w' g l := fun x hx => ⟨(h x hx).1.below hb, (h x hx).2⟩
theorem NewRows.grown {w w' : World} {g : Nat} {l : List El} (h : NewRows w g l) (hg : w.grownBy w' (some g)) : NewRows w' g l := fun x hx => ⟨(h x hx).1.grown hg (h x hx).2, (h x hx).2⟩
/-- What row.clone returns. -/
def RetClone (w : World) (rs : List (List V)) (e : Ending) (w' : World) : Prop := ∃ g c l, e = .returned (.slice (some ⟨g, 0, none⟩) rs.length c) ∧ w'.ownsRow w.heap.size 35 1 (.slice (some ⟨g, 0, none⟩) rs.length c) rs.length (l.map El.val) ∧ l.map El.r = rs ∧ NewRows w' g l ∧ Below w.heap.size w w'

set_option maxRecDepth 100000 in
set_option maxHeartbeats 2000000 in
theorem row_clone (A : Option Addr) (c : Nat) (rs : List (List V)) (w : World) (hr : RowsAt w A rs) (hl : rs.length ≤ 100000) (hrl : ∀ r ∈ rs, r.length ≤ 100000) :
    Calls Tryd.prog 22 #[.slice A rs.length c] w (RetClone w rs) := by
  obtain ⟨i0, hi, hz0, hz1, hz2⟩ := info_parts infoRow
  have HR := hid hr
  have HRL := hid hrl
  clear hr hrl
  go_enter Tryd.func22, Tryd.ntmps22
  go_wp2_with (at_make; refine wpList_make_full _ rfl _ _ 22 rfl w.heap.size 35 i0 (.slice none 0 0) 1 Tryd.underlying22 hi hz0 hz1 _ _ _ _ rs.length rfl rfl rfl rfl (by rw [hz2]; omega) (by unfold maxLen; omega) (Nat.le_refl _) ?_; intro w1 hown1 hg1)
  have hb0 : Below w.heap.size w w1 := (Below.refl _ _).grown hg1 (Nat.le_refl _) (by simp)
  generalize hzs : (madeCells (Value.cells (.slice none 0 0)) (rs.length * 1)).toList = zs at hown1
  clear hzs hg1
  go_loopw [10] (fun i wr => ∃ (j : Nat) (l : List El) (xs : List Value), j ≤ rs.length ∧ i = .int .i64 j ∧ Hid (wr.ownsRow w.heap.size 35 1 (.slice (some ⟨w.heap.size, 0, none⟩) rs.length rs.length) rs.length xs) ∧ Hid (xs.take j = l.map El.val) ∧ Hid (l.map El.r = rs.take j) ∧ Hid (NewRows wr w.heap.size l) ∧ Below w.heap.size w wr) (fun i _ => rs.length - (intOf i).toNat)
  case atStart => exact ⟨0, [], zs, by omega, rfl, hid hown1, hid rfl, hid rfl, hid (fun x hx => by cases hx), hb0⟩
  case round =>
    obtain ⟨j, l, xs, hj, rfl, HO, HX, HM, HN, hbel⟩ := hrel
    clear hown1 hb0
    have hsz := hbel.size
    by_cases hlt : j < rs.length
    · obtain ⟨b, o, rfl, hcell⟩ := HR.out (by omega)
      obtain ⟨A', c', c0, hrow⟩ := hcell j hlt
      have hb : b < w.heap.size := cell_lt c0
      rw [← hbel.cell (p := ⟨b, o + j, none⟩) hb] at c0
      have hOf := hid (clone_row A' c' rs[j] wr (hrow.below hbel) (HRL.out _ (List.getElem_mem hlt)))
      have hs : Hid (rs.take (j + 1) = rs.take j ++ [rs[j]]) := hid (List.take_succ_eq_append_getElem hlt)
      generalize rs[j] = r at *
      clear hcell hrow
      have hgl : w.heap.size < wr.heap.size := (HO.out.lt w.heap.size rfl).2
      go_wp2_with fail
      refine hOf.out.mono ?_
      rintro e w2 ⟨A1, c1, rfl, hx1, hnew, hc1, b1⟩
      have hown2 := own_below HO.out b1
      have HO2 := hid hown2
      have hxl := hown2.1
      have z0 : w2.cell? ⟨w.heap.size, j, none⟩ = some (xs[j]'(by omega)) := by rw [hown2.cellAt _ (by omega)]; simp
      have f0 := hown2.frozenAt j
      have HXL := hid hxl
      have HX1 := hid hx1
      have HN1 := hid (HN.out.below b1)
      have HNew := hid hnew
      have hbel2 := hbel.trans (b1.mono hsz)
      generalize xs[j]'(by omega) = x0 at *
      clear hx1 hnew b1 hOf HO HN hown2 hxl hc1
      go_wp2
      have hg := grown_set (grown_refl w2 (some w.heap.size)) j (.slice A1 r.length c1)
      go_roundw
      case rel => exact ⟨j + 1, l ++ [⟨A1, c1, r⟩], xs.set j (.slice A1 r.length c1), by omega, by go_num, hid (HO2.out.stored j _).1, hid (by rw [List.map_append]; exact take_set1 HX.out (by have := HXL.out; omega) _), hid (by rw [List.map_append, HM.out, hs.out]; rfl), hid (fun x hx => by
        rcases List.mem_append.1 hx with hx | hx
        · exact HN1.out.grown hg x hx
        · rw [List.mem_singleton] at hx
          subst hx
          have hne : ∀ ad, A1 = some ad → ad.block ≠ w.heap.size := fun ad e => by have := HNew.out ad e; omega
          exact ⟨HX1.out.grown hg hne, hne⟩), hbel2.trans (below_of_grown hg (Nat.le_refl _) hbel2.size)⟩
      case measure => simp [intOf]; omega
    · have ej : j = rs.length := by omega
      subst ej
      have hxl := HO.out.1
      have ex : xs = l.map El.val := by
        have := HX.out
        rw [List.take_of_length_le (by omega)] at this
        exact this
      have HO2 := HO.out
      rw [ex] at HO2
      have HO3 := hid HO2
      have HM2 : Hid (l.map El.r = rs) := hid (by rw [HM.out]; exact List.take_of_length_le (Nat.le_refl _))
      clear HO HO2 HX ex hxl HM
      go_wp2
      go_ret
      exact ⟨w.heap.size, rs.length, l, rfl, HO3.out, HM2.out, HN.out, hbel⟩

set_option maxRecDepth 100000 in
set_option maxHeartbeats 1000000 in
theorem sort_cmp (x y : El) (bx : Nat) (D : Option Addr) (cd : Nat) (d : List Bool) (w : World) (hx : RowAt w x.A x.r) (hy : RowAt w y.A y.r) (hd : BoolsAt w D d) (hb : w.cell? ⟨bx, 0, none⟩ = some (.slice D d.length cd)) (h1 : x.r.length ≤ 100000) (h2 : y.r.length ≤ 100000) (h3 : d.length ≤ 100000) :
    Calls Tryd.prog 24 #[x.val, y.val, .pointer (some ⟨bx, 0, none⟩)] w fun e w' => e = .returned (.int .i64 (rowCmp d x.r y.r)) ∧ Below w.heap.size w w' := by
  have H := hid (compareBy x.A y.A D x.c y.c cd x.r y.r d w rfl hx hy hd h1 h2 h3)
  unfold El.val
  clear hx hy hd
  go_enter Tryd.func24, Tryd.ntmps24
  go_wp2_with fail
  refine H.out.mono ?_
  rintro e w1 ⟨rfl, b1⟩
  go_wp2
  go_ret
  exact ⟨rfl, b1⟩

set_option maxRecDepth 100000 in
set_option maxHeartbeats 2000000 in
theorem row_sort (A D : Option Addr) (c cd : Nat) (rs : List (List V)) (d : List Bool) (w : World) (hr : RowsAt w A rs) (hd : BoolsAt w D d) (hl : rs.length ≤ 40) (hrl : ∀ r ∈ rs, r.length ≤ 100000) (hdl : d.length ≤ 100000) :
    Calls Tryd.prog 8 #[.slice A rs.length c, .slice D d.length cd] w (RetEls w (sortR d rs)) := by
  have k0 := below_one w (.cells #[.slice D d.length cd] 23)
  have hbx : (w.alloc (.cells #[.slice D d.length cd] 23)).cell? ⟨w.heap.size, 0, none⟩ = some (.slice D d.length cd) := by rw [cell_of_row _ w.heap.size 0 _ 23 (0, 0) (heap_alloc_new w _)]; rfl
  have HC := hid (row_clone A c rs (w.alloc (.cells #[.slice D d.length cd] 23)) (hr.below k0) (by omega) hrl)
  have hsz : (w.alloc (.cells #[.slice D d.length cd] 23)).heap.size = w.heap.size + 1 := by simp
  have HSo := hid (fun (W W2 : World) (g c2 : Nat) (l : List El) (kW : Below w.heap.size w W) (hc : W.cell? ⟨w.heap.size, 0, none⟩ = some (.slice D d.length cd)) (hg : w.heap.size + 1 ≤ g) (hgs : g < W.heap.size) (hN : NewRows W g l) (hlr : l.map El.r = rs) (hown : W.ownsRow (w.heap.size + 1) 35 1 (.slice (some ⟨g, 0, none⟩) rs.length c2) rs.length (l.map El.val)) =>
    sort_rows W (w.heap.size + 1) g rs.length c2 w.heap.size d l W ⟨hown, grown_refl _ _, hgs⟩ (fun W' hW' x y hx hy => by
      have kb : Below (w.heap.size + 1) W W' := below_of_grown hW' hg (by omega)
      have mem : ∀ z ∈ l, z.r.length ≤ 100000 := fun z hz => hrl _ (by rw [← hlr]; exact List.mem_map_of_mem hz)
      exact sort_cmp x y w.heap.size D cd d W' ((hN x hx).1.grown hW' (hN x hx).2) ((hN y hy).1.grown hW' (hN y hy).2) (hd.below (kW.trans (kb.mono (by omega)))) ((kb.cell (p := ⟨w.heap.size, 0, none⟩) (by show w.heap.size < w.heap.size + 1; omega)).trans hc) (mem x hx) (mem y hy) hdl) hl)
  have HBX := hid hbx
  clear hr hd hrl hbx
  unfold fnV at HSo
  go_enter Tryd.func8, Tryd.ntmps8
  go_wp2_with fail
  refine HC.out.mono ?_
  rintro e w2 ⟨g, c2, l, rfl, hown, hlr, hN, b2⟩
  rw [hsz] at hown b2
  have hgl := hown.lt g rfl
  have k2 : Below w.heap.size w w2 := k0.trans (b2.mono (by omega))
  have hS := hid (HSo.out w2 w2 g c2 l k2 ((b2.cell (p := ⟨w.heap.size, 0, none⟩) (by show w.heap.size < w.heap.size + 1; omega)).trans HBX.out) hgl.1 hgl.2 hN hlr hown)
  have HN := hid hN
  have HLR := hid hlr
  have hll : l.length = rs.length := by rw [← hlr, List.length_map]
  have HLL := hid hll
  clear hN hlr hown b2 HC HSo HBX k0 hll
  go_wp2_with fail
  refine hS.out.mono ?_
  rintro e w3 ⟨rfl, l', hs, hp, hq⟩
  have HS := hid hs
  have HP := hid hp
  have HQ := hid hq
  have k3 : Below w.heap.size w w3 := k2.trans (below_of_grown hs.2.1 (by omega) (by have := k2.size; omega))
  clear hs hp hq hS k2
  go_wp2
  go_ret
  have hlen : l'.length = rs.length := HS.out.len
  refine ⟨some ⟨g, 0, none⟩, c2, l', (by rw [hlen]; rfl), ⟨fun _ => ⟨g, 0, rfl, fun i hi => ?_⟩, fun x hx => ?_⟩, ?_, k3⟩
  · have := HS.out.cell (k := i) (by omega)
    rw [nth_at hi] at this
    rw [Nat.zero_add]
    exact this
  · have hm := HP.out.mem_iff.1 hx
    exact (HN.out x hm).1.grown HS.out.2.1 (HN.out x hm).2
  · rw [srt_one HP.out (by rw [hlen]; exact HQ.out), HLR.out]
end Go.Proofs.YtaghaigckgckpaaDoor
