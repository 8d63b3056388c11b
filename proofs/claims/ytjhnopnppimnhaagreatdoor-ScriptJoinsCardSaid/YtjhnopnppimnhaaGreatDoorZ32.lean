/-
  PARTS of a claim, merged by segs.py: Sk5, Sk6, Sk7.
-/
import Derived.Test.YtjhnopnppimnhaaGreatDoorZ20
import Derived.Test.YtjhnopnppimnhaaGreatDoorZ08
import Derived.Test.YtjhnopnppimnhaaGreatDoorZ31
namespace Go.Proofs.YtjhnopnppimnhaaGreatDoor

/-! ### Sk5 -/
section
open Go.RowKit

section
variable {sp : Nat} {s : Sn} {w : World}
theorem SW.cells (h : SW sp s w) : w.cell? ⟨sp, 0, none⟩ = some (.string ⟨s.rest.toArray⟩) ∧ w.cell? ⟨sp, 1, none⟩ = some (.bool s.ended) ∧ w.cell? ⟨sp, 4, none⟩ = some (.string ⟨s.c.name.toArray⟩) ∧ w.cell? ⟨sp, 7, none⟩ = some (.string ⟨s.c.query.toArray⟩) ∧ (∃ v, w.cell? ⟨sp, 6, none⟩ = some v) ∧ ∀ i, w.frozen? ⟨sp, i, none⟩ = false := by
  obtain ⟨⟨u, v, hb, hu, hv⟩, hf⟩ := h
  exact ⟨box_cell hb 0, box_cell hb 1, box_cell hb 4, box_cell hb 7, ⟨v, box_cell hb 6⟩, fun i => box_free hb i⟩
theorem SW.free2 (h : SW sp s w) (i j : Nat) (v : Value) : (w.setCell ⟨sp, i, none⟩ v).frozen? ⟨sp, j, none⟩ = false := by
  obtain ⟨⟨u, v', hb, hu, hv⟩, hf⟩ := h
  exact box_free (heap_setCell_same w sp i _ _ v hb) j

set_option maxRecDepth 100000 in
set_option maxHeartbeats 1000000 in
theorem skn_word (h : SW sp s w) : Calls Tryz.prog 58 #[.pointer (some ⟨sp, 0, none⟩)] w fun e w' => e = .returned (.string ⟨s.word.1.toArray⟩) ∧ SW sp s.word.2 w' ∧ ScC sp w w' := by
  have HS := hid h
  have hlt := h.lt
  obtain ⟨c0, c1, -⟩ := h.cells
  cases he : s.ended with
  | true =>
    rw [word_ended he]
    rw [he] at c1
    clear h he
    go_enter Tryz.func58, Tryz.ntmps58
    go_wp2
    go_ret
    exact ⟨rfl, HS.out, ScC.refl _ _⟩
  | false =>
    have hf := h.few
    have hf2 := word_few he
    have hf3 := left_rest he
    have hw : s.word = ((cutL 32 s.rest).1, ⟨(cutL 32 s.rest).2.1, !(cutL 32 s.rest).2.2, s.c⟩) := by unfold Sn.word; rw [he, if_neg (by decide)]
    rw [hw] at hf2 ⊢
    have HC := fun W => hid (cut_sp ⟨s.rest.toArray⟩ W (by show s.rest.toArray.size ≤ _; simp; omega) rfl)
    simp only at HC
    obtain ⟨a, r, m, hc⟩ : ∃ a r m, cutL 32 s.rest = (a, r, m) := ⟨_, _, _, rfl⟩
    rw [hc] at HC hf2 ⊢
    rw [he] at c1
    have HP := fun W (p : SW sp s W) => hid (p.put_word r (!m) (by simp only at hf2; omega))
    have HFz := fun W (p : SW sp s W) => p.cells.2.2.2.2.2
    clear h hw hc hf hf2 hf3 he
    go_enter Tryz.func58, Tryz.ntmps58
    go_wp2_with fail
    refine (HC _).out.mono ?_
    rintro e w1 ⟨rfl, b1⟩
    have P1 := hid (HS.out.below b1)
    have K1 := hid (scc_below (sp := sp) b1)
    have hlt1 := P1.out.lt
    obtain ⟨d0, d1, -, -, -, fz⟩ := P1.out.cells
    have f0 := fz 0
    have f1 : (w1.setCell ⟨sp, 0, none⟩ (.string ⟨r.toArray⟩)).frozen? ⟨sp, 1, none⟩ = false := P1.out.free2 0 1 _
    have l1 : sp < (w1.setCell ⟨sp, 0, none⟩ (.string ⟨r.toArray⟩)).heap.size := by simp only [World.setCell, Array.size_modify]; exact hlt1
    have d2 : (w1.setCell ⟨sp, 0, none⟩ (.string ⟨r.toArray⟩)).cell? ⟨sp, 1, none⟩ = some (.bool s.ended) := (World.cell?_setCell_other _ _ _ _ (by intro e'; simp only [Addr.mk.injEq] at e'; omega)).trans d1
    have HP1 := hid (HP w1 P1.out)
    clear HC HP HFz fz b1 c0 c1
    go_wp2
    go_ret
    exact ⟨rfl, HP1.out.out, (K1.out.set 0 _).set 1 _⟩

set_option maxRecDepth 100000 in
set_option maxHeartbeats 1000000 in
theorem skn_tail (h : SW sp s w) : Calls Tryz.prog 62 #[.pointer (some ⟨sp, 0, none⟩)] w fun e w' => e = .returned (.string ⟨s.tail.1.toArray⟩) ∧ SW sp s.tail.2 w' ∧ ScC sp w w' := by
  have HS := hid h
  have hlt := h.lt
  obtain ⟨c0, c1, -, -, -, fz⟩ := h.cells
  cases he : s.ended with
  | true =>
    rw [tail_ended he]
    rw [he] at c1
    clear h he
    go_enter Tryz.func62, Tryz.ntmps62
    go_wp2
    go_ret
    exact ⟨rfl, HS.out, ScC.refl _ _⟩
  | false =>
    have hf := h.few
    have hw : s.tail = (s.rest, ⟨s.rest, true, s.c⟩) := by unfold Sn.tail; rw [he, if_neg (by decide)]
    rw [hw]
    rw [he] at c1
    have f1 := fz 1
    have q0 : (w.setCell ⟨sp, 1, none⟩ (.bool true)).cell? ⟨sp, 0, none⟩ = some (.string ⟨s.rest.toArray⟩) := (World.cell?_setCell_other _ _ _ _ (by intro e'; simp only [Addr.mk.injEq] at e'; omega)).trans c0
    have HP := hid (h.put_ended (by omega))
    clear h hw hf he fz
    go_enter Tryz.func62, Tryz.ntmps62
    go_wp2
    go_ret
    exact ⟨rfl, HP.out, (ScC.refl _ _).set 1 _⟩

set_option maxRecDepth 100000 in
set_option maxHeartbeats 1000000 in
theorem skn_name (h : SW sp s w) : Calls Tryz.prog 42 #[.pointer (some ⟨sp, 0, none⟩)] w (RetSc sp w s.nameS) := by
  have H1 := hid (skn_word h)
  unfold Sn.nameS RetSc
  obtain ⟨W, hW⟩ : ∃ W : ByteArray, W = ⟨s.word.1.toArray⟩ := ⟨_, rfl⟩
  have hWl : W.data.toList = s.word.1 := by rw [hW]
  have tl : W.toList = W.data.toList := Lib.toList_data _
  obtain ⟨sw, hsw⟩ : ∃ x, s.word.2 = x := ⟨_, rfl⟩
  rw [hsw, ← hW] at H1
  rw [hsw]
  rw [← hWl]
  have HWs : Hid ((⟨W.data.toList.toArray⟩ : ByteArray) = W) := hid (arr_b W)
  have HP := fun V (p : SW sp sw V) => hid (p.put_name W.data.toList)
  simp only [arr_b] at HP
  clear h hsw hWl hW
  by_cases h0 : W.data.toList = []
  · have e0 : W.toList.isEmpty = true := by rw [tl, h0]; rfl
    rw [if_pos h0]
    clear tl
    go_enter Tryz.func42, Tryz.ntmps42
    go_wp2_with fail
    refine H1.out.mono ?_
    rintro e w1 ⟨rfl, p1, k1⟩
    have hlt1 := p1.lt
    obtain ⟨-, -, c4, -, -, fz⟩ := p1.cells
    have f4 := fz 4
    have HP1 := hid (HP w1 p1)
    obtain ⟨-, -, c4', -⟩ := (HP w1 p1).out.cells
    have K1 := hid (k1.set 4 (.string W))
    simp only [arr_b] at c4'
    clear H1 HP fz p1 k1
    go_wp2
    go_ret
    exact ⟨rfl, HP1.out.out, K1.out⟩
  · have e0 : W.toList.isEmpty = false := by rw [tl]; simpa using h0
    rw [if_neg h0]
    obtain ⟨z, hz⟩ : ∃ z, catB W.data.toList = z := ⟨_, rfl⟩
    rw [hz]
    have HV := fun V => hid (cat_valid W V hz)
    clear tl hz
    cases z <;>
    · go_enter Tryz.func42, Tryz.ntmps42
      go_wp2_with fail
      refine H1.out.mono ?_
      rintro e w1 ⟨rfl, p1, k1⟩
      have hlt1 := p1.lt
      obtain ⟨-, -, c4, -, -, fz⟩ := p1.cells
      have f4 := fz 4
      have HP1 := hid (HP w1 p1)
      obtain ⟨-, -, c4', -⟩ := (HP w1 p1).out.cells
      have K1 := hid (k1.set 4 (.string W))
      simp only [arr_b] at c4'
      clear H1 HP fz p1 k1
      go_wp2_with fail
      refine (HV _).out.mono ?_
      rintro e w2 ⟨rfl, rfl⟩
      clear HV
      go_wp2
      go_ret
      exact ⟨rfl, HP1.out.out, K1.out⟩

set_option maxRecDepth 100000 in
set_option maxHeartbeats 1000000 in
theorem skn_setRow (t : ByteArray) (ht : t.size ≤ 100000) (h : SW sp s w) (hE : Env w) {x : Sn × Int} (hx : s.setRow t.data.toList = x) : Calls Tryz.prog 61 #[.pointer (some ⟨sp, 0, none⟩), .string t] w (RetSc sp w x) := by
  obtain ⟨r, hr⟩ : ∃ r, rowQ t.data.toList = r := ⟨_, rfl⟩
  have H1 := hid (row_parse_own t w ht hE hr)
  unfold Sn.setRow at hx
  rw [hr] at hx
  have HS := hid h
  have hl0 := h.lt
  clear hr h hE
  cases r with
  | none =>
    simp only at hx
    subst hx
    go_enter Tryz.func61, Tryz.ntmps61
    go_wp2_with fail
    refine H1.out.mono ?_
    rintro e w1 ⟨rfl, b1⟩
    clear H1
    go_wp2
    go_ret
    exact ⟨rfl, HS.out.below b1, scc_below b1⟩
  | some vs =>
    simp only at hx
    subst hx
    go_enter Tryz.func61, Tryz.ntmps61
    go_wp2_with fail
    refine H1.out.mono ?_
    rintro e w1 ⟨A, c, rfl, ho, b1⟩
    have P1 := HS.out.below b1
    have hlt1 := P1.lt
    obtain ⟨-, -, -, -, ⟨v, c6⟩, fz⟩ := P1.cells
    have f6 := fz 6
    have HP := hid (P1.put_row (ren_mono ho (by omega)))
    have K1 := hid ((scc_below (sp := sp) b1).set 6 (.slice A vs.length c))
    clear H1 fz ho b1 HS P1
    go_wp2
    go_ret
    exact ⟨rfl, HP.out, K1.out⟩

set_option maxRecDepth 100000 in
set_option maxHeartbeats 1000000 in
theorem skn_row (h : SW sp s w) (_hE : Env w) (hB : w.heap.size ≤ sp ∨ ∃ w0 : World, Env w0 ∧ w0.heap.size ≤ sp ∧ Below w0.heap.size w0 w) : Calls Tryz.prog 47 #[.pointer (some ⟨sp, 0, none⟩)] w (RetSc sp w (s.tail.2.setRow s.tail.1)) := by
  have H1 := hid (skn_tail h)
  have hlt := h.lt
  obtain ⟨w0, hE0, hl0, hb0⟩ : ∃ w0 : World, Env w0 ∧ w0.heap.size ≤ sp ∧ Below w0.heap.size w0 w := by
    rcases hB with hB | hB
    · omega
    · exact hB
  obtain ⟨W, hW⟩ : ∃ W : ByteArray, W = ⟨s.tail.1.toArray⟩ := ⟨_, rfl⟩
  have hWl : W.data.toList = s.tail.1 := by rw [hW]
  have hWs : W.size ≤ 100000 := by
    have h1 : W.size = s.tail.1.length := by rw [hW]; simp [ByteArray.size]
    rw [h1]
    have := h.few
    cases he : s.ended with
    | true => rw [tail_ended he]; simp
    | false => rw [(tail_left he).1] at this; simp only [List.length_cons, List.length_append] at this; omega
  rw [← hWl]
  rw [← hW] at H1
  have H2 := fun V (p : SW sp s.tail.2 V) (q : Env V) => hid (skn_setRow W hWs p q rfl)
  have HE := hid (fun V (k : ScC sp w V) => hE0.below (hb0.trans (k.below hl0 hb0.size)))
  clear hWl hW h _hE hB
  generalize s.tail.2 = s2 at *
  go_enter Tryz.func47, Tryz.ntmps47
  go_wp2_with fail
  refine H1.out.mono ?_
  rintro e w1 ⟨rfl, p1, k1⟩
  have H3 := hid (H2 w1 p1 (HE.out w1 k1))
  have K1 := hid k1
  clear H1 H2 k1 p1 HE
  go_wp2_with fail
  refine H3.out.out.mono ?_
  rintro e w2 ⟨rfl, p2, k2⟩
  have P2 := hid (And.intro p2 k2)
  clear H3 p2 k2
  go_wp2
  go_ret
  exact ⟨rfl, P2.out.1, K1.out.trans P2.out.2⟩

set_option maxRecDepth 100000 in
set_option maxHeartbeats 1000000 in
theorem scr_accepted (q : ByteArray) (hq : q.size ≤ 65536) (w : World) (hE : EnvL w) {x : Bool} (hx : accB q.data.toList = x) : Calls Tryz.prog 34 #[.string q] w fun e w' => e = .returned (.bool x) ∧ Below w.heap.size w w' := by
  obtain ⟨p, hp⟩ : ∃ p, q.data.toList.all prnB = p := ⟨_, rfl⟩
  have H1 := fun W => hid (scr_printable q W (by omega) hp)
  unfold accB at hx
  rw [hp] at hx
  cases p with
  | false =>
    subst hx
    clear hp hE
    go_enter Tryz.func34, Tryz.ntmps34
    go_wp2_with fail
    refine (H1 _).out.mono ?_
    rintro e w1 ⟨rfl, rfl⟩
    clear H1
    go_wp2
    go_ret
    exact ⟨rfl, Below.refl _ _⟩
  | true =>
    obtain ⟨⟨y, a, ec⟩, hy⟩ : ∃ y, parseP (scanL q.data.toList) = y := ⟨_, rfl⟩
    have H2 := fun W (k : Below w.heap.size w W) => hid (prs_parse q W (hE.below k) hq rfl hy)
    rw [hy] at hx
    simp only [Bool.true_and] at hx
    have hz : (ec == 0) = x := by rw [← hx]; rfl
    clear hp hE hy hx
    go_enter Tryz.func34, Tryz.ntmps34
    go_wp2_with fail
    refine (H1 _).out.mono ?_
    rintro e w1 ⟨rfl, rfl⟩
    clear H1
    go_wp2_with fail
    refine (H2 _ (Below.refl _ _)).out.mono ?_
    rintro e w2 ⟨A, R, O, ch, cr, co, rfl, -, -, k2⟩
    have k3 := k2.trans ((below_one w2 (.cells #[.slice A y.head.length ch, .int .i64 y.agg, .string ⟨y.aggVar.toArray⟩, .slice R y.rules.length cr, .slice O y.order.length co] 95)).mono k2.size)
    clear H2 k2
    go_wp2
    go_ret
    exact ⟨by rw [← hz]; rfl, k3⟩

set_option maxRecDepth 100000 in
set_option maxHeartbeats 1000000 in
theorem skn_query (h : SW sp s w) (hB : ∃ w0 : World, EnvL w0 ∧ w0.heap.size ≤ sp ∧ Below w0.heap.size w0 w) : Calls Tryz.prog 48 #[.pointer (some ⟨sp, 0, none⟩)] w (RetSc sp w s.qryS) := by
  have H1 := hid (skn_tail h)
  unfold Sn.qryS RetSc
  obtain ⟨w0, hE0, hl0, hb0⟩ := hB
  obtain ⟨W, hW⟩ : ∃ W : ByteArray, W = ⟨s.tail.1.toArray⟩ := ⟨_, rfl⟩
  have hWl : W.data.toList = s.tail.1 := by rw [hW]
  have hWs : W.size ≤ 65536 := by
    have h1 : W.size = s.tail.1.length := by rw [hW]; simp [ByteArray.size]
    rw [h1]
    have := h.few
    cases he : s.ended with
    | true => rw [tail_ended he]; simp
    | false => rw [(tail_left he).1] at this; simp only [List.length_cons, List.length_append] at this; omega
  have tl : W.toList = W.data.toList := Lib.toList_data _
  obtain ⟨sw, hsw⟩ : ∃ x, s.tail.2 = x := ⟨_, rfl⟩
  rw [hsw, ← hW] at H1
  rw [hsw]
  rw [← hWl]
  have HP := fun V (p : SW sp sw V) => hid (p.put_query W.data.toList)
  simp only [arr_b] at HP
  have HE := hid (fun V (k : ScC sp w V) => hE0.below (hb0.trans (k.below hl0 hb0.size)))
  clear h hsw hWl hW
  by_cases h0 : W.data.toList = []
  · have e0 : W.toList.isEmpty = true := by rw [tl, h0]; rfl
    rw [if_pos h0]
    clear tl
    go_enter Tryz.func48, Tryz.ntmps48
    go_wp2_with fail
    refine H1.out.mono ?_
    rintro e w1 ⟨rfl, p1, k1⟩
    have hlt1 := p1.lt
    obtain ⟨-, -, -, c4, -, fz⟩ := p1.cells
    have f4 := fz 7
    have HP1 := hid (HP w1 p1)
    obtain ⟨-, -, -, c4', -⟩ := (HP w1 p1).out.cells
    have K1 := hid (k1.set 7 (.string W))
    simp only [arr_b] at c4'
    clear H1 HP fz p1 k1
    go_wp2
    go_ret
    exact ⟨rfl, HP1.out.out, K1.out⟩
  · have e0 : W.toList.isEmpty = false := by rw [tl]; simpa using h0
    rw [if_neg h0]
    obtain ⟨z, hz⟩ : ∃ z, accB W.data.toList = z := ⟨_, rfl⟩
    rw [hz]
    have HV := fun V (k : ScC sp w V) => hid (scr_accepted W hWs V (HE.out V k) hz)
    clear tl hz
    cases z <;>
    · go_enter Tryz.func48, Tryz.ntmps48
      go_wp2_with fail
      refine H1.out.mono ?_
      rintro e w1 ⟨rfl, p1, k1⟩
      have hlt1 := p1.lt
      obtain ⟨-, -, -, c4, -, fz⟩ := p1.cells
      have f4 := fz 7
      have HP1 := hid (HP w1 p1)
      obtain ⟨-, -, -, c4', -⟩ := (HP w1 p1).out.cells
      have K1 := hid (k1.set 7 (.string W))
      have HV1 := hid (HV _ (k1.set 7 (.string W)))
      simp only [arr_b] at c4'
      clear H1 HP fz p1 k1 HV
      go_wp2_with fail
      refine HV1.out.out.mono ?_
      rintro e w2 ⟨rfl, b2⟩
      have HB := hid b2
      clear HV1 b2
      go_wp2
      go_ret
      exact ⟨rfl, HP1.out.out.below HB.out, K1.out.then HB.out⟩
end
end

/-! ### Sk6 -/
section
open Go.RowKit

section
variable {sp : Nat} {s : Sn} {w : World}
/-- The numbers' row. -/
theorem SW.nums (h : SW sp s w) : ∃ A c v, w.heap[sp]? = some (.cells (scaC s.rest s.ended s.c.op s.c.name (.slice A s.c.nums.length c) v s.c.query) 71) ∧ w.ownsRow (sp + 1) 2 1 (.slice A s.c.nums.length c) s.c.nums.length (s.c.nums.map (Value.int .i64)) ∧ w.ownsRow (sp + 1) 67 3 v s.c.row.length (flat s.c.row) := by
  obtain ⟨⟨u, v, hb, hu, hv⟩, hf⟩ := h
  have : ∃ A c, u = .slice A s.c.nums.length c := by
    rcases hu.2 with ⟨h1, h0⟩ | ⟨g, cap, cur, h1, _⟩
    · rw [h1, h0]; exact ⟨_, _, rfl⟩
    · exact ⟨_, _, h1⟩
  obtain ⟨A, c, rfl⟩ := this
  exact ⟨A, c, v, hb, hu, hv⟩
theorem own_sl {w : World} {B e n : Nat} {u : Value} {xs : List Value} (hu : w.ownsRow B e 1 u n xs) : ∃ A c, u = .slice A n c := by
  rcases hu.2 with ⟨h1, h0⟩ | ⟨g, cap, cur, h1, _⟩
  · rw [h1, h0]; exact ⟨_, _, rfl⟩
  · exact ⟨_, _, h1⟩
theorem box_grown {w w' : World} {b : Nat} {o : Obj} {x : Option Nat} (h : w.heap[b]? = some o) (hg : w.grownBy w' x) (hx : x ≠ some b) : w'.heap[b]? = some o :=
  (hg.block b (Array.getElem?_eq_some_iff.1 h).1 (fun e => hx e.symm)).trans h

set_option maxRecDepth 100000 in
set_option maxHeartbeats 4000000 in
theorem skn_number (lo hi : Int) (h : SW sp s w) (hB : ∃ w0 : World, EnvL w0 ∧ w0.heap.size ≤ sp ∧ Below w0.heap.size w0 w) :
    Calls Tryz.prog 45 #[.pointer (some ⟨sp, 0, none⟩), .agg #[.int .i64 lo, .int .i64 hi]] w (RetSc sp w (s.numS lo hi)) := by
  obtain ⟨i0, hi0, hz0, hz1, hz2⟩ := info_parts infoI64
  obtain ⟨w0, hE0, hl0, hb0⟩ := hB
  have hlt := h.lt
  have k0 := below_one w (.cells #[.int .i64 lo, .int .i64 hi] 82)
  have hsp := heap_alloc_new w (.cells #[.int .i64 lo, .int .i64 hi] 82)
  have H1 := hid (skn_word (h.below k0))
  obtain ⟨W, hW⟩ : ∃ W : ByteArray, W = ⟨s.word.1.toArray⟩ := ⟨_, rfl⟩
  have hWl : W.data.toList = s.word.1 := by rw [hW]
  have hWs : W.size ≤ 65536 := by
    have h1 : W.size = s.word.1.length := by rw [hW]; simp [ByteArray.size]
    rw [h1]
    have := h.few
    cases he : s.ended with
    | true => rw [word_ended he]; simp
    | false => rw [(word_left he).1] at this; simp only [List.length_cons, List.length_append] at this; omega
  have hfew : s.word.1 ≠ [] → s.word.2.c.nums.length + 1 + s.word.2.left.length ≤ 65537 := fun hne => by
    have he : s.ended = false := by
      cases he : s.ended with
      | true => exact absurd (congrArg Prod.fst (word_ended he)) hne
      | false => rfl
    have := word_few he
    rw [(word_left he).2]
    have := h.few
    omega
  have HB0 := hb0.trans (k0.mono hb0.size)
  have HE := hid (fun V (k : ScC sp (w.alloc (.cells #[.int .i64 lo, .int .i64 hi] 82)) V) => hE0.below (HB0.trans (k.below hl0 HB0.size)))
  unfold Sn.numS
  obtain ⟨sw, hsw⟩ : ∃ x, s.word.2 = x := ⟨_, rfl⟩
  rw [hsw, ← hW] at H1
  rw [hsw, ← hWl] at hfew
  rw [hsw, ← hWl]
  have HFew := hid hfew
  have hne : w.heap.size ≠ sp := by omega
  clear h hsw hWl hW hE0 hb0 HB0 hfew
  obtain ⟨z, hz⟩ : ∃ z, decB W.data.toList = z := ⟨_, rfl⟩
  have HD := fun V => hid (scr_decimal W V (by omega) hz)
  cases z with
  | false =>
    rw [dec_no hz]
    simp only
    rw [if_pos (by decide)]
    clear hz HFew HE
    go_enter Tryz.func45, Tryz.ntmps45
    go_wp2_with fail
    refine H1.out.mono ?_
    rintro e w1 ⟨rfl, p1, k1⟩
    have P1 := hid (And.intro p1 ((scc_below (sp := sp) k0).trans k1))
    clear H1 p1 k1
    go_wp2_with fail
    refine (HD _).out.mono ?_
    rintro e w2 ⟨rfl, rfl⟩
    clear HD
    go_wp2
    go_ret
    exact ⟨rfl, P1.out.1, P1.out.2⟩
  | true =>
    obtain ⟨hm1, hm2, hpi⟩ := dec_yes hz
    have HPI := fun V (he : ErrAt V) => hid (parse_int_lib W V (by omega) he hm1 hm2)
    have hWne : W.data.toList ≠ [] := by intro e; rw [e] at hm1; exact hm1 rfl
    have HF := HFew.out hWne
    rw [hpi]
    generalize topL W.data.toList = T at *
    generalize (if negL W.data.toList = true then - (numVal (magL W.data.toList) : Int) else numVal (magL W.data.toList)) = R at *
    generalize numVal (magL W.data.toList) = N at *
    clear hz hm1 hm2 hpi HFew hWne
    by_cases hTN : T < N
    · rw [if_pos hTN]
      simp only
      rw [if_pos (by decide)]
      go_enter Tryz.func45, Tryz.ntmps45
      go_wp2_with fail
      refine H1.out.mono ?_
      rintro e w1 ⟨rfl, p1, k1⟩
      have HP2 := hid (HPI w1 (HE.out w1 k1).env.err)
      have P1 := hid (And.intro p1 ((scc_below (sp := sp) k0).trans k1))
      clear H1 p1 k1 HE HPI
      go_wp2_with fail
      refine (HD _).out.mono ?_
      rintro e w2 ⟨rfl, rfl⟩
      clear HD
      go_wp2_with fail
      refine HP2.out.out.mono ?_
      rintro e w2 ⟨⟨he1, _⟩, b1⟩
      obtain ⟨n, t', p, rfl⟩ := he1 hTN
      have B1 := hid b1
      clear HP2 b1 he1
      go_wp2
      go_ret
      exact ⟨rfl, P1.out.1.below B1.out, P1.out.2.then B1.out⟩
    · rw [if_neg hTN]
      rw [if_neg (show ¬ ((intV1 R, (0 : Int)).2 ≠ 0) by simp)]
      show Calls _ _ _ _ (RetSc sp w (if R < lo ∨ hi < R then (sw, 3) else (sw.push R, 0)))
      by_cases hrng : R < lo ∨ hi < R
      · rw [if_pos hrng]
        have hcase : R < lo ∨ (¬ R < lo ∧ hi < R) := by omega
        clear hrng
        rcases hcase with hr | ⟨hr, hr2⟩
        all_goals
          go_enter Tryz.func45, Tryz.ntmps45
          go_wp2_with fail
          refine H1.out.mono ?_
          rintro e w1 ⟨rfl, p1, k1⟩
          have HP2 := hid (HPI w1 (HE.out w1 k1).env.err)
          have P1 := hid (And.intro p1 ((scc_below (sp := sp) k0).trans k1))
          have HSp := hid (k1.kept hsp hne (by decide))
          clear H1 p1 k1 HE HPI
          go_wp2_with fail
          refine (HD _).out.mono ?_
          rintro e w2 ⟨rfl, rfl⟩
          clear HD
          go_wp2_with fail
          refine HP2.out.out.mono ?_
          rintro e w2 ⟨⟨_, he2⟩, b1⟩
          obtain rfl := he2 hTN
          have B1 := hid b1
          have hsp2 := (b1.block _ (lt_of_block HSp.out)).trans HSp.out
          have q0 := box_cell hsp2 0
          have q1 := box_cell hsp2 1
          clear HP2 b1 he2 hsp2
          go_wp2
          go_ret
          exact ⟨rfl, P1.out.1.below B1.out, P1.out.2.then B1.out⟩
      · rw [if_neg hrng]
        obtain ⟨hr, hr2⟩ : ¬ R < lo ∧ ¬ hi < R := by omega
        clear hrng
        go_enter Tryz.func45, Tryz.ntmps45
        go_wp2_with fail
        refine H1.out.mono ?_
        rintro e w1 ⟨rfl, p1, k1⟩
        have HP2 := hid (HPI w1 (HE.out w1 k1).env.err)
        have P1 := hid (And.intro p1 ((scc_below (sp := sp) k0).trans k1))
        have HSp := hid (k1.kept hsp hne (by decide))
        clear H1 p1 k1 HE HPI
        go_wp2_with fail
        refine (HD _).out.mono ?_
        rintro e w2 ⟨rfl, rfl⟩
        clear HD
        go_wp2_with fail
        refine HP2.out.out.mono ?_
        rintro e w2 ⟨⟨_, he2⟩, b1⟩
        obtain rfl := he2 hTN
        have P2 := P1.out.1.below b1
        have K2 := P1.out.2.then b1
        have hsp2 := (b1.block _ (lt_of_block HSp.out)).trans HSp.out
        have q0 := box_cell hsp2 0
        have q1 := box_cell hsp2 1
        obtain ⟨A, c, v, hb, hu, hv⟩ := P2.nums
        have hl2 := P2.lt
        have c5 := box_cell hb 5
        have HB3 := hid hb
        have HU3 := hid hu
        have HV3 := hid hv
        have K3 := hid K2
        have hu0 := hid hu
        clear HP2 b1 he2 hsp2 HSp P1 hsp P2 K2 hb hv
        have hlen : sw.c.nums.length ≤ 65537 := by omega
        go_wp2_with (at_builtin; (refine wpList_append_new2 Tryz.underlying31 hi0 hz0 hz1 hz2 rfl (by decide) (by decide) rfl rfl rfl hu0.out rfl (by simp) rfl rfl (by omega) (by omega) ?_; intro v2 w3 hown2 hg2; obtain ⟨A9, c9, rfl⟩ := own_sl hown2; have HO2 := hid hown2; have HK2 := hid (K3.out.grown hg2 (own_block64 HU3.out (Nat.lt_succ_self _))); have HB4 := hid (box_grown HB3.out hg2 (fun e => by have := own_block64 (sp := sp) HU3.out (Nat.lt_succ_self _) _ e; omega)); have HV4 := hid (((ScC.refl sp _).grown hg2 (own_block64 HU3.out (Nat.lt_succ_self _))).own HV3.out (Nat.lt_succ_self _) (by decide)); have d5 := box_cell HB4.out 5; have f5 := box_free HB4.out 5; have l5 := lt_of_block HB4.out; clear hown2 hg2))
        go_ret
        exact ⟨rfl, SW.push HB4.out HV4.out HO2.out HF, HK2.out.set 5 _⟩
end
end

/-! ### Sk7 -/
section
open Go.RowKit

def leftW (sp : Nat) (w : World) : Nat := match w.cell? ⟨sp, 1, none⟩, w.cell? ⟨sp, 0, none⟩ with
  | some (.bool e), some (.string b) => if e = true then 0 else b.size + 1
  | _, _ => 0
section
variable {sp : Nat} {s : Sn} {w : World}
theorem SW.leftW (h : SW sp s w) : leftW sp w = s.left.length := by
  obtain ⟨c0, c1, -⟩ := h.cells
  unfold Go.Proofs.YtjhnopnppimnhaaGreatDoor.leftW Sn.left
  rw [c0, c1]
  simp only
  cases s.ended with
  | true => rfl
  | false => simp [ByteArray.size]
theorem kinds_zero (s : Sn) : kindsS 0 s = (s, 0) := by unfold kindsS; rfl
theorem kinds_end {f : Nat} {s : Sn} (h : s.ended = true) : kindsS f s = (s, 0) := by
  cases f with
  | zero => exact kinds_zero s
  | succ f => unfold kindsS; rw [if_pos h]
theorem kinds_bad {f : Nat} {s : Sn} (h : s.ended = false) (h1 : s.word.1 ≠ sInt) (h2 : s.word.1 ≠ sStr) : kindsS (f + 1) s = (s.word.2, 15) := by
  unfold kindsS; rw [if_neg (by rw [h]; decide), if_neg (fun e => e.elim h1 h2)]
theorem kinds_six {f : Nat} {s : Sn} (h : s.ended = false) (h1 : s.word.1 = sInt ∨ s.word.1 = sStr) (h2 : s.word.2.c.nums.length = 6) : kindsS (f + 1) s = (s.word.2, 12) := by
  unfold kindsS; rw [if_neg (by rw [h]; decide), if_pos h1, if_pos h2]
theorem kinds_go {f : Nat} {s : Sn} (h : s.ended = false) (h1 : s.word.1 = sInt ∨ s.word.1 = sStr) (h2 : ¬ s.word.2.c.nums.length = 6) {k : Int} (hk : (if s.word.1 = sInt then 1 else 2) = k) : kindsS (f + 1) s = kindsS f (s.word.2.push k) := by
  conv => lhs; unfold kindsS
  rw [if_neg (by rw [h]; decide), if_pos h1, if_neg h2, hk]

set_option maxRecDepth 100000 in
set_option maxHeartbeats 4000000 in
theorem skn_kinds (h : SW sp s w) {f : Nat} (hf : s.left.length ≤ f) {x : Sn × Int} (hx : kindsS f s = x) :
    Calls Tryz.prog 43 #[.pointer (some ⟨sp, 0, none⟩)] w (RetSc sp w x) := by
  obtain ⟨i0, hi0, hz0, hz1, hz2⟩ := info_parts infoI64
  have HS := hid h
  have HX := hid hx
  clear h hx
  go_enter Tryz.func43, Tryz.ntmps43
  go_wp2
  go_loopw [3] (fun _ wr => ∃ (t : Sn) (f : Nat), Hid (SW sp t wr) ∧ Hid (ScC sp w wr) ∧ t.left.length ≤ f ∧ Hid (kindsS f t = x)) (fun _ wr => leftW sp wr)
  case atStart => exact ⟨s, f, HS, hid (ScC.refl _ _), hf, HX⟩
  case round =>
    obtain ⟨t, f, HS1, HK1, hf1, HX1⟩ := hrel
    clear HS HX hf
    obtain ⟨c0, c1, -⟩ := HS1.out.cells
    have HLw := hid HS1.out.leftW
    cases he : t.ended with
    | true =>
      rw [he] at c1
      have hxx := HX1.out
      rw [kinds_end he] at hxx
      subst hxx
      clear HX1 HLw c0
      go_wp2
      go_ret
      exact ⟨rfl, HS1.out, HK1.out⟩
    | false =>
      rw [he] at c1
      have hlr := left_rest he
      have hwf := word_few he
      have hfew := HS1.out.few
      have hwc := (word_left he).2
      obtain ⟨f, rfl⟩ : ∃ f', f = f' + 1 := ⟨f - 1, by omega⟩
      have H1 := hid (skn_word HS1.out)
      obtain ⟨W, hW⟩ : ∃ W : ByteArray, W = ⟨t.word.1.toArray⟩ := ⟨_, rfl⟩
      have hWl : W.toList = t.word.1 := by rw [hW, Lib.toList_data]
      rw [← hW] at H1
      cases b1 : (W.toList == [105, 110, 116]) with
      | true =>
        have hw1 : t.word.1 = sInt := by rw [← hWl]; exact beq_iff_eq.1 b1
        by_cases h6 : t.word.2.c.nums.length = 6
        · have hxx := HX1.out
          rw [kinds_six he (.inl hw1) h6] at hxx
          subst hxx
          clear HX1 HLw c0 hwf hfew hlr hw1 hW hWl he hf1 hwc
          generalize t.word.2 = sw at *
          go_wp2_with fail
          refine H1.out.mono ?_
          rintro e w1 ⟨rfl, p1, k1⟩
          obtain ⟨A, c, v, hb, -, -⟩ := p1.nums
          have c5 := box_cell hb 5
          have hlt := p1.lt
          have P1 := hid (And.intro p1 (HK1.out.trans k1))
          have e6 : ((sw.c.nums.length : Int) == 6) = true := by simp [h6]
          clear H1 p1 k1 hb HK1 HS1 c1 h6
          go_wp2
          go_ret
          exact ⟨rfl, P1.out.1, P1.out.2⟩
        · have HX2 := hid HX1.out
          rw [kinds_go he (.inl hw1) h6 (k := 1) (by rw [if_pos hw1])] at HX2
          have hfew2 : t.word.2.c.nums.length + 1 + t.word.2.left.length ≤ 65537 := by rw [hwc]; omega
          have hf2 : t.word.2.left.length ≤ f := by omega
          have HM : Hid (t.word.2.left.length < leftW sp wr) := hid (by rw [HLw.out]; omega)
          clear HX1 HLw c0 hwf hfew hlr hw1 hW hWl he hf1 hwc
          generalize t.word.2 = sw at *
          go_wp2_with fail
          refine H1.out.mono ?_
          rintro e w1 ⟨rfl, p1, k1⟩
          obtain ⟨A, c, v, hb, hu, hv⟩ := p1.nums
          have c5 := box_cell hb 5
          have hlt := p1.lt
          have e6 : ((sw.c.nums.length : Int) == 6) = false := by rw [beq_eq_false_iff_ne]; omega
          have HB3 := hid hb
          have HU3 := hid hu
          have HV3 := hid hv
          have K3 := hid (HK1.out.trans k1)
          clear H1 p1 k1 hb hu hv HK1 HS1 c1
          have hlen : sw.c.nums.length ≤ 65537 := by omega
          go_wp2_with (at_builtin; (refine wpList_append_new2 Tryz.underlying31 hi0 hz0 hz1 hz2 rfl (by decide) (by decide) rfl rfl rfl HU3.out rfl (by simp) rfl rfl (by omega) (by omega) ?_; intro v2 w3 hown2 hg2; obtain ⟨A9, c9, rfl⟩ := own_sl hown2; have HO2 := hid hown2; have HK2 := hid (K3.out.grown hg2 (own_block64 HU3.out (Nat.lt_succ_self _))); have HB4 := hid (box_grown HB3.out hg2 (fun e => by have := own_block64 (sp := sp) HU3.out (Nat.lt_succ_self _) _ e; omega)); have HV4 := hid (((ScC.refl sp _).grown hg2 (own_block64 HU3.out (Nat.lt_succ_self _))).own HV3.out (Nat.lt_succ_self _) (by decide)); have d5 := box_cell HB4.out 5; have f5 := box_free HB4.out 5; have l5 := lt_of_block HB4.out; clear hown2 hg2))
          have HPu := hid (SW.push HB4.out HV4.out HO2.out hfew2)
          go_roundw
          case rel => exact ⟨_, f, HPu, hid (HK2.out.set 5 _), hf2, HX2⟩
          case measure => rw [HPu.out.leftW]; exact HM.out
      | false =>
        have hw0 : t.word.1 ≠ sInt := by rw [← hWl]; exact beq_eq_false_iff_ne.1 b1
        cases b2 : (W.toList == [115, 116, 114]) with
        | false =>
          have hw1 : t.word.1 ≠ sStr := by rw [← hWl]; exact beq_eq_false_iff_ne.1 b2
          have hxx := HX1.out
          rw [kinds_bad he hw0 hw1] at hxx
          subst hxx
          clear HX1 HLw c0 hwf hfew hlr hw1 hW hWl he hf1 hw0
          generalize t.word.2 = sw at *
          go_wp2_with fail
          refine H1.out.mono ?_
          rintro e w1 ⟨rfl, p1, k1⟩
          have P1 := hid (And.intro p1 (HK1.out.trans k1))
          clear H1 p1 k1 HK1 HS1 c1
          go_wp2
          go_ret
          exact ⟨rfl, P1.out.1, P1.out.2⟩
        | true =>
          have hw1 : t.word.1 = sStr := by rw [← hWl]; exact beq_iff_eq.1 b2
          by_cases h6 : t.word.2.c.nums.length = 6
          · have hxx := HX1.out
            rw [kinds_six he (.inr hw1) h6] at hxx
            subst hxx
            clear HX1 HLw c0 hwf hfew hlr hw1 hW hWl he hf1 hw0 hwc
            generalize t.word.2 = sw at *
            go_wp2_with fail
            refine H1.out.mono ?_
            rintro e w1 ⟨rfl, p1, k1⟩
            obtain ⟨A, c, v, hb, -, -⟩ := p1.nums
            have c5 := box_cell hb 5
            have hlt := p1.lt
            have P1 := hid (And.intro p1 (HK1.out.trans k1))
            have e6 : ((sw.c.nums.length : Int) == 6) = true := by simp [h6]
            clear H1 p1 k1 hb HK1 HS1 c1 h6
            go_wp2
            go_ret
            exact ⟨rfl, P1.out.1, P1.out.2⟩
          · have HX2 := hid HX1.out
            rw [kinds_go he (.inr hw1) h6 (k := 2) (by rw [if_neg hw0])] at HX2
            have hfew2 : t.word.2.c.nums.length + 1 + t.word.2.left.length ≤ 65537 := by rw [hwc]; omega
            have hf2 : t.word.2.left.length ≤ f := by omega
            have HM : Hid (t.word.2.left.length < leftW sp wr) := hid (by rw [HLw.out]; omega)
            clear HX1 HLw c0 hwf hfew hlr hw1 hW hWl he hf1 hwc hw0
            generalize t.word.2 = sw at *
            go_wp2_with fail
            refine H1.out.mono ?_
            rintro e w1 ⟨rfl, p1, k1⟩
            obtain ⟨A, c, v, hb, hu, hv⟩ := p1.nums
            have c5 := box_cell hb 5
            have hlt := p1.lt
            have e6 : ((sw.c.nums.length : Int) == 6) = false := by rw [beq_eq_false_iff_ne]; omega
            have HB3 := hid hb
            have HU3 := hid hu
            have HV3 := hid hv
            have K3 := hid (HK1.out.trans k1)
            clear H1 p1 k1 hb hu hv HK1 HS1 c1
            have hlen : sw.c.nums.length ≤ 65537 := by omega
            go_wp2_with (at_builtin; (refine wpList_append_new2 Tryz.underlying31 hi0 hz0 hz1 hz2 rfl (by decide) (by decide) rfl rfl rfl HU3.out rfl (by simp) rfl rfl (by omega) (by omega) ?_; intro v2 w3 hown2 hg2; obtain ⟨A9, c9, rfl⟩ := own_sl hown2; have HO2 := hid hown2; have HK2 := hid (K3.out.grown hg2 (own_block64 HU3.out (Nat.lt_succ_self _))); have HB4 := hid (box_grown HB3.out hg2 (fun e => by have := own_block64 (sp := sp) HU3.out (Nat.lt_succ_self _) _ e; omega)); have HV4 := hid (((ScC.refl sp _).grown hg2 (own_block64 HU3.out (Nat.lt_succ_self _))).own HV3.out (Nat.lt_succ_self _) (by decide)); have d5 := box_cell HB4.out 5; have f5 := box_free HB4.out 5; have l5 := lt_of_block HB4.out; clear hown2 hg2))
            have HPu := hid (SW.push HB4.out HV4.out HO2.out hfew2)
            go_roundw
            case rel => exact ⟨_, f, HPu, hid (HK2.out.set 5 _), hf2, HX2⟩
            case measure => rw [HPu.out.leftW]; exact HM.out
end
end
end Go.Proofs.YtjhnopnppimnhaaGreatDoor
