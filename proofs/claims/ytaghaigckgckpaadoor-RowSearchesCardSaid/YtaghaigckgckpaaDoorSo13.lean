/-
  WALKS: sort.Search at the closure of row.Search, row.Search.
-/
import Derived.Test.YtaghaigckgckpaaDoorEls
import Derived.Test.YtaghaigckgckpaaDoorKit3
namespace Go.Proofs.YtaghaigckgckpaaDoor
open Go.RowKit

/-- What a search finds. -/
def Hits (n m : Nat) (p : Nat → Bool) : Prop := (∀ a b, a ≤ b → b < n → p a = true → p b = true) → (∀ t, t < m → p t = false) ∧ ∀ t, m ≤ t → t < n → p t = true

set_option maxRecDepth 100000 in
set_option maxHeartbeats 2000000 in
theorem search_rows (n bx by_ bz : Nat) (p : Nat → Bool) (w : World) (hn : n ≤ 100000)
    (hf : ∀ W, Below w.heap.size w W → ∀ i, i < n → Calls Tryd.prog 29 #[.int .i64 i, .pointer (some ⟨bx, 0, none⟩), .pointer (some ⟨by_, 0, none⟩), .pointer (some ⟨bz, 0, none⟩)] W fun e w' => e = .returned (.bool (p i)) ∧ Below W.heap.size W w') :
    Calls Tryd.prog 28 #[.int .i64 n, .func (.func 29) #[] #[.pointer (some ⟨bx, 0, none⟩), .pointer (some ⟨by_, 0, none⟩), .pointer (some ⟨bz, 0, none⟩)]] w fun e w' => ∃ m : Nat, m ≤ n ∧ e = .returned (.int .i64 m) ∧ Hits n m p ∧ Below w.heap.size w w' := by
  have HF := hid hf
  clear hf
  go_enter Tryd.func28, Tryd.ntmps28
  go_wp2
  go_loopw [5, 6] (fun vi vj wr => ∃ (i j : Nat), vi = .int .i64 i ∧ vj = .int .i64 j ∧ i ≤ j ∧ j ≤ n ∧ Below w.heap.size w wr ∧ Hid ((∀ a b, a ≤ b → b < n → p a = true → p b = true) → (∀ t, t < i → p t = false) ∧ ∀ t, j ≤ t → t < n → p t = true)) (fun i j _ => (intOf j).toNat - (intOf i).toNat)
  case atStart => exact ⟨0, n, rfl, rfl, by omega, by omega, Below.refl _ _, hid (fun _ => ⟨fun t ht => by omega, fun t h1 h2 => by omega⟩)⟩
  case round =>
    obtain ⟨i, j, rfl, rfl, hij, hjn, hbel, HI⟩ := hrel
    by_cases hlt : i < j
    · obtain ⟨q, hq⟩ : ∃ q, q = (i + j) / 2 := ⟨_, rfl⟩
      have eq : ((i : Int) + (j : Int)) / 2 = (q : Int) := by omega
      have hiq : i ≤ q := by omega
      have hqj : q < j := by omega
      have hC := HF.out wr hbel q (by omega)
      clear hq
      cases hp : p q with
      | true =>
        have I2 : Hid ((∀ a b, a ≤ b → b < n → p a = true → p b = true) → (∀ t, t < i → p t = false) ∧ ∀ t, q ≤ t → t < n → p t = true) := hid (fun hm => ⟨(HI.out hm).1, fun t h1 h2 => hm q t h1 h2 hp⟩)
        rw [hp] at hC
        have HC := hid hC
        clear hC hp HI
        go_wp2_with fail
        refine HC.out.mono ?_
        rintro e w1 ⟨rfl, b1⟩
        have k1 := hbel.trans (b1.mono hbel.size)
        go_wp2
        go_roundw
        case rel => exact ⟨i, q, rfl, rfl, by omega, by omega, k1, I2⟩
        case measure => simp [intOf]; omega
      | false =>
        have I2 : Hid ((∀ a b, a ≤ b → b < n → p a = true → p b = true) → (∀ t, t < q + 1 → p t = false) ∧ ∀ t, j ≤ t → t < n → p t = true) := hid (fun hm => ⟨fun t ht => (by
          cases h : p t with
          | false => rfl
          | true => have := hm t q (by omega) (by omega) h; rw [hp] at this; exact this.symm), (HI.out hm).2⟩)
        rw [hp] at hC
        have HC := hid hC
        clear hC hp HI
        go_wp2_with fail
        refine HC.out.mono ?_
        rintro e w1 ⟨rfl, b1⟩
        have k1 := hbel.trans (b1.mono hbel.size)
        go_wp2
        go_roundw
        case rel => exact ⟨q + 1, j, by go_num, rfl, by omega, by omega, k1, I2⟩
        case measure => simp [intOf]; omega
    · have hji : i = j := by omega
      subst hji
      go_wp2
      go_ret
      exact ⟨i, hjn, rfl, HI.out, hbel⟩

set_option maxRecDepth 100000 in
set_option maxHeartbeats 1000000 in
theorem search_cmp (A R D : Option Addr) (c cr cd bx by_ bz i : Nat) (l : List El) (r : List V) (d : List Bool) (w : World) (hE : ElsAt w A l) (hr : RowAt w R r) (hd : BoolsAt w D d)
    (c0 : w.cell? ⟨bx, 0, none⟩ = some (.slice A l.length c)) (c1 : w.cell? ⟨by_, 0, none⟩ = some (.slice R r.length cr)) (c2 : w.cell? ⟨bz, 0, none⟩ = some (.slice D d.length cd))
    (hi : i < l.length) (hl : l.length ≤ 100000) (hx : ∀ x ∈ l, x.r.length ≤ 100000) (hrl : r.length ≤ 100000) (hdl : d.length ≤ 100000) {z : Bool} (hz : decide (0 ≤ rowCmp d (nth El.dum l i).r r) = z) :
    Calls Tryd.prog 29 #[.int .i64 i, .pointer (some ⟨bx, 0, none⟩), .pointer (some ⟨by_, 0, none⟩), .pointer (some ⟨bz, 0, none⟩)] w fun e w' => e = .returned (.bool z) ∧ Below w.heap.size w w' := by
  have hdr : Below w.heap.size w w.drew := below_drewN (Below.refl _ _) 1
  obtain ⟨b, o, rfl, hcell⟩ := hE.1 (by omega)
  have e0 := hcell i hi
  have hrow := (hE.2 _ (List.getElem_mem hi)).below hdr
  have hlx := hx _ (List.getElem_mem hi)
  rw [nth_at hi] at hz
  generalize l[i] = x at *
  obtain ⟨q, hq⟩ : ∃ q, rowCmp d x.r r = q := ⟨_, rfl⟩
  have H := hid (compareBy x.A R D x.c cr cd x.r r d w.drew hq hrow (hr.below hdr) (hd.below hdr) hlx hrl hdl)
  rw [hq] at hz
  have HZ := hid hz
  simp only [El.val] at e0
  clear hE hr hd hcell hrow hq hz
  go_enter Tryd.func29, Tryd.ntmps29
  go_wp2
  go_still_tail 6, (by kernel_rfl)
  change wpList _ _ _ _ _ w.drew
  go_wp2_with fail
  refine H.out.mono ?_
  rintro e w1 ⟨rfl, b1⟩
  by_cases h0 : 0 ≤ q
  · have hz1 : z = true := by rw [← HZ.out]; exact decide_eq_true h0
    have d0 : decide (0 ≤ q) = true := decide_eq_true h0
    subst hz1
    go_wp2
    go_ret
    exact ⟨rfl, hdr.trans b1⟩
  · have hz1 : z = false := by rw [← HZ.out]; exact decide_eq_false h0
    have d0 : decide (0 ≤ q) = false := decide_eq_false h0
    subst hz1
    go_wp2
    go_ret
    exact ⟨rfl, hdr.trans b1⟩

/-- What row.Search answers. -/
def RetSearch (w : World) (rs : List (List V)) (r : List V) (d : List Bool) (e : Ending) (w' : World) : Prop := ∃ (m : Nat) (f : Bool), e = .returned (.tuple #[.int .i64 m, .bool f]) ∧ m ≤ rs.length ∧ (SortedR d rs → m = cntR d r rs ∧ f = hasR d r rs) ∧ Below w.heap.size w w'

set_option maxRecDepth 100000 in
set_option maxHeartbeats 2000000 in
theorem row_search (A R D : Option Addr) (c cr cd : Nat) (l : List El) (r : List V) (d : List Bool) (w : World) (hE : ElsAt w A l) (hr : RowAt w R r) (hd : BoolsAt w D d) (hl : l.length ≤ 100000) (hx : ∀ x ∈ l, x.r.length ≤ 100000) (hrl : r.length ≤ 100000) (hdl : d.length ≤ 100000) :
    Calls Tryd.prog 13 #[.slice A l.length c, .slice R r.length cr, .slice D d.length cd] w (RetSearch w (l.map El.r) r d) := by
  have k3 := below_three w (.cells #[.slice A l.length c] 22) (.cells #[.slice R r.length cr] 35) (.cells #[.slice D d.length cd] 23)
  have c0 : (((w.alloc (.cells #[.slice A l.length c] 22)).alloc (.cells #[.slice R r.length cr] 35)).alloc (.cells #[.slice D d.length cd] 23)).cell? ⟨w.heap.size, 0, none⟩ = some (.slice A l.length c) := by
    rw [cell_of_row _ w.heap.size 0 #[.slice A l.length c] 22 (0, 0) ((Below.heap_alloc _ _ _ (by simp; omega)).trans ((Below.heap_alloc _ _ _ (by simp)).trans (heap_alloc_new w _)))]; rfl
  have c1 : (((w.alloc (.cells #[.slice A l.length c] 22)).alloc (.cells #[.slice R r.length cr] 35)).alloc (.cells #[.slice D d.length cd] 23)).cell? ⟨w.heap.size + 1, 0, none⟩ = some (.slice R r.length cr) := by
    rw [cell_of_row _ (w.heap.size + 1) 0 #[.slice R r.length cr] 35 (0, 0) ((Below.heap_alloc _ _ _ (by simp)).trans (by have := heap_alloc_new (w.alloc (.cells #[.slice A l.length c] 22)) (.cells #[.slice R r.length cr] 35); rwa [World.size_alloc] at this))]; rfl
  have c2 : (((w.alloc (.cells #[.slice A l.length c] 22)).alloc (.cells #[.slice R r.length cr] 35)).alloc (.cells #[.slice D d.length cd] 23)).cell? ⟨w.heap.size + 1 + 1, 0, none⟩ = some (.slice D d.length cd) := by
    rw [cell_of_row _ (w.heap.size + 1 + 1) 0 #[.slice D d.length cd] 23 (0, 0) (by have := heap_alloc_new ((w.alloc (.cells #[.slice A l.length c] 22)).alloc (.cells #[.slice R r.length cr] 35)) (.cells #[.slice D d.length cd] 23); rwa [World.size_alloc, World.size_alloc] at this)]; rfl
  generalize hw3 : ((w.alloc (.cells #[.slice A l.length c] 22)).alloc (.cells #[.slice R r.length cr] 35)).alloc (.cells #[.slice D d.length cd] 23) = w3 at k3 c0 c1 c2
  have HS := hid (search_rows l.length w.heap.size (w.heap.size + 1) (w.heap.size + 1 + 1) (fun i => decide (0 ≤ rowCmp d (nth El.dum l i).r r)) w3 hl (fun W kW i hi =>
    search_cmp A R D c cr cd w.heap.size (w.heap.size + 1) (w.heap.size + 1 + 1) i l r d W (hE.below (k3.trans (kW.mono k3.size))) (hr.below (k3.trans (kW.mono k3.size))) (hd.below (k3.trans (kW.mono k3.size)))
      (cell_keep kW c0) (cell_keep kW c1) (cell_keep kW c2) hi hl hx hrl hdl rfl))
  have HE := hid hE
  have HEq := hid (fun (x : El) (W : World) (kW : Below w.heap.size w W) (hm : x ∈ l) => row_equal x.A R x.c cr x.r r W rfl ((hE.2 x hm).below kW) (hr.below kW) (hx x hm) hrl)
  clear hE hr hd hx
  go_enter Tryd.func13, Tryd.ntmps13
  go_wp2_with fail
  refine HS.out.mono ?_
  rintro e w4 ⟨m, hm, rfl, hh, b4⟩
  have k4 := k3.trans (b4.mono k3.size)
  have e0 := cell_keep b4 c0
  have e1 := cell_keep b4 c1
  have hSp : SortedR d (l.map El.r) → (∀ t (h : t < (l.map El.r).length), t < m → rowCmp d (l.map El.r)[t] r < 0) ∧ ∀ t (h : t < (l.map El.r).length), m ≤ t → 0 ≤ rowCmp d (l.map El.r)[t] r := fun hs => by
    have hmono : ∀ a b, a ≤ b → b < l.length → decide (0 ≤ rowCmp d (nth El.dum l a).r r) = true → decide (0 ≤ rowCmp d (nth El.dum l b).r r) = true := fun a b hab hb ha => by
      rw [nth_at (by omega)] at ha
      rw [nth_at hb]
      have := mono_R (r := r) hs hab (by simpa using hb) (by rw [List.getElem_map]; exact of_decide_eq_true ha)
      rw [List.getElem_map] at this
      exact decide_eq_true this
    obtain ⟨h1, h2⟩ := hh hmono
    refine ⟨fun t ht htm => ?_, fun t ht htm => ?_⟩
    · have hl2 : t < l.length := by simpa using ht
      have := of_decide_eq_false (h1 t htm)
      rw [nth_at hl2] at this
      rw [List.getElem_map]
      omega
    · have hl2 : t < l.length := by simpa using ht
      have := of_decide_eq_true (h2 t htm hl2)
      rw [nth_at hl2] at this
      rw [List.getElem_map]
      exact this
  have HSp := hid hSp
  clear HS hSp hh b4 c0 c1 c2 k3
  by_cases hlt : m < l.length
  · obtain ⟨b, o, rfl, hcell⟩ := HE.out.1 (by omega)
    have e2 := hcell m hlt
    have hbl := cell_lt e2
    rw [← k4.cell (cell_lt e2)] at e2
    obtain ⟨z, hz⟩ : ∃ z, decide (rowCmp [] l[m].r r = 0) = z := ⟨_, rfl⟩
    have HC := fun p : BelowBy w4 => hid (by have := HEq.out l[m] p.to (k4.trans (p.le.mono k4.size)) (List.getElem_mem hlt); rw [hz] at this; exact this)
    have HF : Hid (SortedR d (l.map El.r) → m = cntR d r (l.map El.r) ∧ z = hasR d r (l.map El.r)) := hid (fun hs => by
      obtain ⟨h1, h2⟩ := HSp.out hs
      obtain ⟨h3, h4⟩ := found_at hs (by simpa using hm) h1 h2
      refine ⟨h3.symm, ?_⟩
      rw [h4 (by simpa using hlt), List.getElem_map]
      exact hz.symm)
    have dlt : decide ((m : Int) < (l.length : Int)) = true := decide_eq_true (by omega)
    generalize l[m] = x at *
    simp only [El.val] at e2
    have q0 := fun p : BelowBy w4 => by_cell e0 p
    have q1 := fun p : BelowBy w4 => by_cell e1 p
    have q2 := fun p : BelowBy w4 => by_cell e2 p
    clear HSp hz hcell HEq HE e0 e1 e2
    go_wp2
    refine wp_region_below (by kernel_rfl) (by kernel_rfl) ?_
    repeat (go_big_quiet_step (first | with_reducible exact calls_by (HC _).out))
    refine wpQuiet_nil ?_
    rintro wq ⟨⟨wqx, kq⟩, rfl⟩
    have k5 := k4.trans (kq.mono k4.size)
    go_wp2
    go_ret2
    exact ⟨m, z, rfl, by simpa using hm, HF.out, k5⟩
  · have HF : Hid (SortedR d (l.map El.r) → m = cntR d r (l.map El.r) ∧ false = hasR d r (l.map El.r)) := hid (fun hs => by
      obtain ⟨h1, h2⟩ := HSp.out hs
      obtain ⟨h3, _⟩ := found_at hs (by simpa using hm) h1 h2
      refine ⟨h3.symm, ?_⟩
      rw [found_end (fun t ht => h1 t ht (by have : t < l.length := by simpa using ht
                                             omega))])
    have dlt : decide ((m : Int) < (l.length : Int)) = false := decide_eq_false (by omega)
    clear HSp HEq HE
    go_wp2
    go_big_region
    have k5 := k4.drew
    generalize w4.drew = w5 at k5 ⊢
    go_wp2
    go_ret2
    exact ⟨m, false, rfl, by simpa using hm, HF.out, k5⟩
end Go.Proofs.YtaghaigckgckpaaDoor
