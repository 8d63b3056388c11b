/-
  Memory words for rows of rows by their headers; appends to them; ordinallaw02.All.
-/
import Derived.Test.YtaghaigckgckpaaDoorSrP
import Derived.Test.YtaghaigckgckpaaDoorOfs
import Derived.Test.YtaghaigckgckpaaDoorFew
namespace Go.Proofs.YtaghaigckgckpaaDoor
open Go.RowKit

/-- A slice of rows whose headers are known. -/
def ElsAt (w : World) (A : Option Addr) (l : List El) : Prop :=
  (0 < l.length → ∃ b o, A = some ⟨b, o, none⟩ ∧ ∀ i (h : i < l.length), w.cell? ⟨b, o + i, none⟩ = some l[i].val) ∧ ∀ x ∈ l, RowAt w x.A x.r
theorem ElsAt.below {w w' : World} {A : Option Addr} {l : List El} (h : ElsAt w A l) (hb : Below w.heap.size w w') : ElsAt w' A l :=
  ⟨fun hl => (by
    obtain ⟨b, o, e, hc⟩ := h.1 hl
    exact ⟨b, o, e, fun i hi => (hb.cell (cell_lt (hc i hi))).trans (hc i hi)⟩), fun x hx => (h.2 x hx).below hb⟩
theorem ElsAt.nil {w : World} {A : Option Addr} : ElsAt w A [] := ⟨fun h => absurd h (by simp), fun x hx => by cases hx⟩
theorem ElsAt.rows {w : World} {A : Option Addr} {l : List El} (h : ElsAt w A l) : RowsAt w A (l.map El.r) := by
  intro hl
  rw [List.length_map] at hl
  obtain ⟨b, o, e, hc⟩ := h.1 hl
  refine ⟨b, o, e, fun i hi => ?_⟩
  rw [List.length_map] at hi
  rw [List.getElem_map]
  exact ⟨l[i].A, l[i].c, hc i hi, h.2 _ (List.getElem_mem hi)⟩
theorem rows_els {w : World} {A : Option Addr} {rs : List (List V)} (h : RowsAt w A rs) : ∃ l, l.map El.r = rs ∧ ElsAt w A l := by
  by_cases h0 : 0 < rs.length
  · obtain ⟨b, o, e, hc⟩ := h h0
    have hex : ∀ i : Fin rs.length, ∃ x : El, x.r = rs[i] ∧ w.cell? ⟨b, o + i, none⟩ = some x.val ∧ RowAt w x.A x.r := fun i => by
      obtain ⟨A', c, h1, h2⟩ := hc i i.2
      exact ⟨⟨A', c, rs[i]⟩, rfl, h1, h2⟩
    obtain ⟨f, hf⟩ := Classical.axiomOfChoice hex
    refine ⟨List.ofFn f, ?_, fun _ => ⟨b, o, e, fun i hi => ?_⟩, fun x hx => ?_⟩
    · apply List.ext_getElem
      · simp
      · intro i h1 h2
        rw [List.getElem_map, List.getElem_ofFn]
        exact (hf ⟨i, h2⟩).1
    · rw [List.getElem_ofFn]
      rw [List.length_ofFn] at hi
      exact (hf ⟨i, hi⟩).2.1
    · obtain ⟨i, hi, e2⟩ := List.mem_iff_getElem.1 hx
      rw [List.getElem_ofFn] at e2
      rw [List.length_ofFn] at hi
      rw [← e2]
      exact (hf ⟨i, hi⟩).2.2
  · have : rs = [] := List.eq_nil_of_length_eq_zero (by omega)
    subst this
    exact ⟨[], rfl, ElsAt.nil⟩
theorem els_one (l : List El) : ∀ u ∈ l.map El.val, u.oneCell' = true := by
  intro u hu
  obtain ⟨x, _, rfl⟩ := List.mem_map.1 hu
  rfl
theorem els_cells {w : World} {a : Addr} {l : List El} (h : ElsAt w (some a) l) : ∀ j u, (l.map El.val)[j]? = some u → w.cell? (a.add j) = some u := by
  intro j u hj
  have hjl : j < l.length := by
    have := (List.getElem?_eq_some_iff.1 hj).1
    simpa using this
  obtain ⟨b, o, e, hc⟩ := h.1 (by omega)
  injection e with e
  subst e
  rw [Addr.add_lit, hc j hjl]
  rw [List.getElem?_map] at hj
  simpa [hjl] using hj
theorem own_els {w : World} {B : Nat} {t : TypeId} {v : Value} {l : List El} (h : w.ownsRow B t 1 v l.length (l.map El.val)) (hr : ∀ x ∈ l, RowAt w x.A x.r) : ∃ A c, v = .slice A l.length c ∧ ElsAt w A l := by
  rcases h.2 with ⟨rfl, h0⟩ | ⟨g, cap, cur, rfl, hrest⟩
  · have : l = [] := List.eq_nil_of_length_eq_zero h0
    subst this
    exact ⟨_, _, rfl, ElsAt.nil⟩
  · refine ⟨_, _, rfl, fun _ => ⟨g, 0, rfl, fun i hi => ?_⟩, hr⟩
    have := h.cells (g := g) rfl i (l[i].val) (by simp [hi])
    rw [Addr.add_lit] at this
    exact this
theorem own_elsN {w : World} {B n : Nat} {t : TypeId} {v : Value} {l : List El} (h : w.ownsRow B t 1 v n (l.map El.val)) (hr : ∀ x ∈ l, RowAt w x.A x.r) : ∃ A c, v = .slice A n c ∧ n = l.length ∧ ElsAt w A l := by
  have hn : n = l.length := by have := h.1; simpa using this.symm
  subst hn
  obtain ⟨A, c, e, h'⟩ := own_els h hr
  exact ⟨A, c, e, rfl, h'⟩
/-- Rows that lie below what grows. -/
theorem RowAt.grown0 {w w' : World} {A : Option Addr} {r : List V} {x : Option Nat} (h : RowAt w A r) (hg : w.grownBy w' x) (hA : ∀ ad, A = some ad → x ≠ some ad.block) : RowAt w' A r := by
  intro hl
  obtain ⟨b, o, e, hc⟩ := h hl
  have hne : some b ≠ x := fun he => hA _ e he.symm
  refine ⟨b, o, e, fun i hi => ?_⟩
  obtain ⟨h0, h1, h2⟩ := hc i hi
  have hb : w'.heap[b]? = w.heap[b]? := hg.block b (cell_lt h0) hne
  exact ⟨(World.cell?_of_block (a := ⟨b, _, none⟩) hb).trans h0, (World.cell?_of_block (a := ⟨b, _, none⟩) hb).trans h1, (World.cell?_of_block (a := ⟨b, _, none⟩) hb).trans h2⟩

/-- 'append(out, x, ..)' that tells where the row lies behind it. -/
theorem wpList_append_new_at {P : Program} {w0 : World} {news : List Value} {ops : Array Oper} {rest : List Oper} {o : Oper} {a : Act} {Q : Exit → Act → World → Prop} {t e : TypeId} {i : TypeInfo} {z : Value} {size bytes : Nat}
    (ht : P.underlying t = some (.slice e)) (hi : P.info? e = some i) (hz : i.zero = some z) (hsize : i.size = size) (hby : i.bytes = bytes) (hzs : z.cells.size = size) (hsz : 0 < size) (hb1 : 0 < bytes)
    (hgd : o.guard = none) {s x : Operand} (ho : o.op = .call { callee := .builtin .append, args := #[s, x], argTypes := #[t, t] })
    {base : Nat} {v : Value} {n : Nat} {xs : List Value} (hs : a.eval s = v) (hown : w0.ownsRow base e size v n xs) {g m c : Nat} (hx : a.eval x = .slice (some ⟨g, 0, none⟩) m c) (hg : g = w0.heap.size)
    (hl : news.length = m * size) (h1 : news.all (·.oneCell') = true) (hlim : (n + m) * bytes ≤ 140737488355328) (hbase : base ≤ w0.heap.size)
    (h : ∀ v' w', w'.ownsRow base e size v' (n + m) (xs ++ news) → w0.grownBy w' v.ownBlock → (v'.ownBlock = v.ownBlock ∨ v'.ownBlock = some (w0.heap.size + 1)) → wpList P ops Q rest (a.put o.dst v') w') : wpList P ops Q (o :: rest) a (w0.alloc (.cells news.toArray e)) := by
  subst hg
  have h63 : n + m ≤ maxLen := by
    have := Nat.le_mul_of_pos_right (n + m) hb1
    simp only [maxLen]; omega
  refine wpList_append_own_at _ hgd s x t ho base e i z size bytes ht hi hz hsize hby hzs hsz v n xs hs (hown.alloc _) ⟨w0.heap.size, 0, none⟩ m c news hx hl ?_ (by simpa [List.all_eq_true] using h1) h63 hlim (by simp; omega) ?_
  · intro j u hu
    have hc : (w0.alloc (.cells news.toArray e)).heap[w0.heap.size]? = some (.cells news.toArray e (0, 0)) := heap_alloc_new w0 _
    have : Addr.add ⟨w0.heap.size, 0, none⟩ j = ⟨w0.heap.size, j, none⟩ := by unfold Addr.add; by_cases hj : j = 0 <;> simp [hj]
    rw [this, cell_of_row _ w0.heap.size j _ e (0, 0) hc]
    simpa using hu
  · intro v' w' h2 h3 _ h5
    exact h v' w' h2 ⟨h3.os, h3.tape, h3.output, Nat.le_trans (by simp) h3.size, fun k hk hne => (h3.block k (by simp; omega) hne).trans (Below.heap_alloc _ _ _ hk)⟩ (by simpa using h5)

/-- A row of the call's own that holds headers: the rows lie in other blocks. -/
def OwnEls (w : World) (B : Nat) (t : TypeId) (v : Value) (n : Nat) (l : List El) : Prop := w.ownsRow B t 1 v n (l.map El.val) ∧ ∀ x ∈ l, RowAt w x.A x.r ∧ (0 < x.r.length → ∀ ad, x.A = some ad → v.ownBlock ≠ some ad.block)
theorem OwnEls.nil {w : World} {B : Nat} {t : TypeId} : OwnEls w B t (.slice none 0 0) 0 [] := ⟨World.ownsRow_nil _ _ _ _, fun x hx => by cases hx⟩
theorem OwnEls.len {w : World} {B : Nat} {t : TypeId} {v : Value} {n : Nat} {l : List El} (h : OwnEls w B t v n l) : l.length = n := by have := h.1.1; simpa using this
theorem OwnEls.below {w w' : World} {B : Nat} {t : TypeId} {v : Value} {n : Nat} {l : List El} (h : OwnEls w B t v n l) (hb : Below w.heap.size w w') : OwnEls w' B t v n l :=
  ⟨own_below h.1 hb, fun x hx => ⟨(h.2 x hx).1.below hb, (h.2 x hx).2⟩⟩
theorem OwnEls.els {w : World} {B : Nat} {t : TypeId} {v : Value} {n : Nat} {l : List El} (h : OwnEls w B t v n l) : ∃ A c, v = .slice A n c ∧ n = l.length ∧ ElsAt w A l := own_elsN h.1 fun x hx => (h.2 x hx).1
theorem RowAt.grown1 {w w' : World} {A : Option Addr} {r : List V} {x : Option Nat} (h : RowAt w A r) (hg : w.grownBy w' x) (hA : 0 < r.length → ∀ ad, A = some ad → x ≠ some ad.block) : RowAt w' A r := by
  by_cases h0 : 0 < r.length
  · exact h.grown0 hg (hA h0)
  · have : r = [] := List.eq_nil_of_length_eq_zero (by omega)
    subst this
    exact RowAt.nil
theorem RowAt.lt {w : World} {A : Option Addr} {r : List V} (h : RowAt w A r) (h0 : 0 < r.length) : ∀ ad, A = some ad → ad.block < w.heap.size := by
  obtain ⟨b, o, rfl, hc⟩ := h h0
  intro ad e
  injection e with e
  subst e
  exact cell_lt (hc 0 h0).1
/-- More headers behind. -/
theorem OwnEls.push {w w' : World} {B m : Nat} {t : TypeId} {v v' : Value} {n n' : Nat} {l l2 : List El} (h : OwnEls w B t v n l) (hown : w'.ownsRow B t 1 v' n' (l.map El.val ++ l2.map El.val)) (hg : w.grownBy w' v.ownBlock)
    (hat : v'.ownBlock = v.ownBlock ∨ v'.ownBlock = some m) (hm : w.heap.size ≤ m) (h2 : ∀ x ∈ l2, RowAt w x.A x.r ∧ (0 < x.r.length → ∀ ad, x.A = some ad → v.ownBlock ≠ some ad.block)) : OwnEls w' B t v' n' (l ++ l2) := by
  refine ⟨by rw [List.map_append]; exact hown, fun x hx => ?_⟩
  have hx1 : RowAt w x.A x.r ∧ (0 < x.r.length → ∀ ad, x.A = some ad → v.ownBlock ≠ some ad.block) := by
    rcases List.mem_append.1 hx with hx | hx
    · exact h.2 x hx
    · exact h2 x hx
  refine ⟨hx1.1.grown1 hg hx1.2, fun h0 ad e => ?_⟩
  rcases hat with hat | hat
  · rw [hat]; exact hx1.2 h0 ad e
  · have := hx1.1.lt h0 ad e
    rw [hat]
    intro he
    injection he with he
    omega
/-- A row that is newer, or older, than the row of headers. -/
theorem OwnEls.newer {w : World} {B : Nat} {t : TypeId} {v : Value} {n : Nat} {l : List El} (h : OwnEls w B t v n l) {A : Option Addr} (hA : ∀ ad, A = some ad → w.heap.size ≤ ad.block) : ∀ ad, A = some ad → v.ownBlock ≠ some ad.block := fun ad e he => by
  have h1 := (h.1.lt _ he).2
  have h2 := hA ad e
  omega
theorem OwnEls.older {w w0 : World} {B : Nat} {t : TypeId} {v : Value} {n : Nat} {l : List El} (h : OwnEls w B t v n l) {A : Option Addr} {r : List V} (hr : RowAt w0 A r) (hB : w0.heap.size ≤ B) : 0 < r.length → ∀ ad, A = some ad → v.ownBlock ≠ some ad.block := fun h0 ad e he => by
  have h1 := (h.1.lt _ he).1
  have h2 := hr.lt h0 ad e
  omega
/-- A call that returns a slice of rows: where from B on, if the rows are new as well. -/
def RetEls (w : World) (rs : List (List V)) (e : Ending) (w' : World) : Prop := ∃ A c l, e = .returned (.slice A l.length c) ∧ ElsAt w' A l ∧ l.map El.r = rs ∧ Below w.heap.size w w'

theorem infoRR : (Tryd.prog.info? 39).map (fun i => (i.zero, i.size, i.bytes)) = some (some (.slice none 0 0), 1, 24) := by kernel_rfl

set_option maxRecDepth 100000 in
set_option maxHeartbeats 1000000 in
theorem law_all (A : Option Addr) (c : Nat) (rs : List (List V)) (w : World) (hr : RowsAt w A rs) (hl : rs.length ≤ 100000) (hrl : ∀ r ∈ rs, r.length ≤ 100000) :
    Calls Tryd.prog 7 #[.slice A rs.length c] w (RetEls w rs) := by
  obtain ⟨i0, hi, hz0, hz1, hz2⟩ := info_parts infoRR
  have HR := hid hr
  have HRL := hid hrl
  clear hr hrl
  go_enter Tryd.func7, Tryd.ntmps7
  go_wp2
  go_loopw [3, 8] (fun v i wr => ∃ (k : Nat) (l : List El), k ≤ rs.length ∧ i = .int .i64 k ∧ Hid (OwnEls wr w.heap.size 39 v k l) ∧ Hid (l.map El.r = rs.take k) ∧ Below w.heap.size w wr) (fun _ i _ => rs.length - (intOf i).toNat)
  case atStart => exact ⟨0, [], by omega, rfl, hid OwnEls.nil, hid rfl, Below.refl _ _⟩
  case round =>
    obtain ⟨k, l, hk, rfl, HO, HM, hbel⟩ := hrel
    have hsz := hbel.size
    by_cases hlt : k < rs.length
    · obtain ⟨b, o, rfl, hcell⟩ := HR.out (by omega)
      obtain ⟨A', c', c0, hrow⟩ := hcell k hlt
      have hb : b < w.heap.size := cell_lt c0
      rw [← hbel.cell (p := ⟨b, o + k, none⟩) hb] at c0
      have hOf := hid (law_of_new A' c' rs[k] wr (hrow.below hbel) (HRL.out _ (List.getElem_mem hlt)))
      have hs : Hid (rs.take (k + 1) = rs.take k ++ [rs[k]]) := hid (List.take_succ_eq_append_getElem hlt)
      generalize rs[k] = r at *
      clear hcell hrow
      go_wp2_with fail
      refine hOf.out.mono ?_
      rintro e w1 ⟨A1, c1, rfl, hx1, hnew, hc1, b1⟩
      have HO1 := hid (HO.out.below b1)
      have hown1 := HO1.out.1
      have hsz1 := b1.size
      have HC1 := hid hc1
      have HX2 := hid hx1
      have HN2 := hid (HO.out.newer hnew)
      have HB1 := hid b1
      clear hx1 hnew hc1 b1 hOf HO
      go_wp2_with (at_builtin; refine wpList_append_new_at Tryd.underlying26 hi hz0 hz1 hz2 rfl (by decide) (by decide) rfl rfl rfl hown1 rfl (by simp) rfl rfl (by omega) (by omega) ?_; intro v2 w2 hown2 hg2 hat2)
      go_roundw
      case rel => exact ⟨k + 1, l ++ [⟨A1, c1, r⟩], by omega, by go_num, hid (HO1.out.push (l2 := [⟨A1, c1, r⟩]) hown2 hg2 hat2 (by omega) (fun x hx => by
        rw [List.mem_singleton] at hx
        subst hx
        exact ⟨HX2.out, fun _ => HN2.out⟩)), hid (by rw [List.map_append, HM.out, hs.out]; rfl), (hbel.trans (HB1.out.mono hsz)).trans (grown_below hown1 hg2 (by omega))⟩
      case measure => simp [intOf]; omega
    · have ek : k = rs.length := by omega
      subst ek
      obtain ⟨A', c', rfl, hn, hE⟩ := HO.out.els
      have HE := hid hE
      have HM2 : Hid (l.map El.r = rs) := hid (by rw [HM.out]; exact List.take_of_length_le (Nat.le_refl _))
      have HL := hid hn
      clear hE hn HM HO
      go_wp2
      go_ret
      exact ⟨A', c', l, (by rw [HL.out]; rfl), HE.out, HM2.out, hbel⟩
end Go.Proofs.YtaghaigckgckpaaDoor
