/-
  WALKS: the document's Sort.
-/
import Derived.Test.YtaghaigckgckpaaDoorSo9
import Derived.Deep.DeepCutAuto
import Derived.Laws.AppendOwnNone
namespace Go.Proofs.YtaghaigckgckpaaDoor
open Go.RowKit

theorem own_base {w : World} {B B' : Nat} {e : TypeId} {size n : Nat} {v : Value} {xs : List Value} (h : w.ownsRow B' e size v n xs) (hb : B ≤ B') : w.ownsRow B e size v n xs := by
  obtain ⟨hl, h0 | ⟨g, cap, cur, hv, hB, hh, r⟩⟩ := h
  · exact ⟨hl, .inl h0⟩
  · exact ⟨hl, .inr ⟨g, cap, cur, hv, Nat.le_trans hb hB, hh, r⟩⟩
set_option maxRecDepth 100000 in
set_option maxHeartbeats 4000000 in
/-- 'append(s, x...)' of a row of headers to one of the call's own. -/
theorem wpList_append_els {w : World} {ops : Array Oper} {rest : List Oper} {o : Oper} {a : Act} {Q : Exit → Act → World → Prop} (hgd : o.guard = none) (s x : Operand)
    (ho : o.op = .call { callee := .builtin .append, args := #[s, x], argTypes := #[26, 26] }) {base : Nat} {v : Value} {n m c : Nat} {ad : Addr} {acc l : List El}
    (hs : a.eval s = v) (hown : w.ownsRow base 39 1 v n (acc.map El.val)) (hx : a.eval x = .slice (some ad) m c) (hm : l.length = m) (hc : ∀ j u, (l.map El.val)[j]? = some u → w.cell? (ad.add j) = some u) (hn : n + m ≤ 100000) (hb : base ≤ w.heap.size)
    (h : ∀ v' w', w'.ownsRow base 39 1 v' (n + m) ((acc ++ l).map El.val) → w.grownBy w' v.ownBlock → Below base w w' → wpList Tryd.prog ops Q rest (a.put o.dst v') w') : wpList Tryd.prog ops Q (o :: rest) a w := by
  obtain ⟨i0, hi, hz0, hz1, hz2⟩ := info_parts infoRR
  refine wpList_append_own _ hgd s x 26 ho base 39 i0 (.slice none 0 0) 1 24 Tryd.underlying26 hi hz0 hz1 hz2 rfl (by decide) v n (acc.map El.val) hs hown ad m c (l.map El.val) hx ?_ ?_ ?_ ?_ ?_ ?_ ?_
  · simp [hm]
  · exact hc
  · exact els_one l
  · unfold maxLen; omega
  · omega
  · exact hb
  · intro v' w1 hown1 hg1 _
    refine h v' w1 (by rw [List.map_append]; exact hown1) hg1 ((Below.refl _ _).grown hg1 hb (fun j hj => (hown.lt j hj).1))
theorem own_lit {w : World} {B k : Nat} {t : TypeId} {v : Value} {l : List El} (h : w.ownsRow B t 1 v k (l.map El.val)) : l.length = k ∧ ((v = .slice none 0 0 ∧ k = 0) ∨ ∃ g cap, v = .slice (some ⟨g, 0, none⟩) k cap ∧ B ≤ g ∧ g < w.heap.size ∧ k ≤ cap ∧ ∀ i (hi : i < l.length), w.cell? ⟨g, i, none⟩ = some l[i].val) := by
  have hl : l.length = k := by have := h.1; simpa using this
  refine ⟨hl, ?_⟩
  rcases h.2 with h0 | ⟨g, cap, cur, rfl, hB, hh, hk, _⟩
  · exact Or.inl h0
  · refine Or.inr ⟨g, cap, rfl, hB, (h.lt g rfl).2, hk, fun i hi => ?_⟩
    rw [h.cellAt _ (by simp; omega)]
    simp [hi]

set_option maxRecDepth 100000 in
set_option maxHeartbeats 4000000 in
theorem ref_sort (A D : Option Addr) (c cd : Nat) (l : List El) (d : List Bool) (w : World) (h : ElsAt w A l) (hd : BoolsAt w D d) (hl : l.length ≤ 1000) (hrl : ∀ x ∈ l, x.r.length ≤ 100000 ∧ StrOk x.r) (hdl : d.length ≤ 100000) :
    Calls Tryd.prog 11 #[.slice A l.length c, .slice D d.length cd] w (RetEls w (sortR d (l.map El.r))) := by
  obtain ⟨i0, hi, hz0, hz1, hz2⟩ := info_parts infoRR
  have HE := hid h
  have HRL := hid hrl
  have HCm := hid (fun (x y : El) (W : World) (hx : x ∈ l) (hy : y ∈ l) (kW : Below w.heap.size w W) => refRow_cmp x.A y.A D x.c y.c cd x.r y.r d W rfl ((h.2 x hx).below kW) ((h.2 y hy).below kW) (hd.below kW) (hrl x hx).1 (hrl y hy).1 hdl (hrl x hx).2 (hrl y hy).2)
  clear h hrl hd
  go_enter Tryd.func11, Tryd.ntmps11
  go_wp2
  go_loopw [5, 6] (fun v i wr => ∃ (k : Nat) (lo : List El), k ≤ l.length ∧ i = .int .i64 k ∧ Hid (wr.ownsRow w.heap.size 39 1 v k (lo.map El.val)) ∧ Hid (∀ x ∈ lo, x ∈ l) ∧ Hid (SortedR d (lo.map El.r)) ∧ Hid ((lo.map El.r).Perm ((l.take k).map El.r)) ∧ Below w.heap.size w wr) (fun _ i _ => l.length - (intOf i).toNat)
  case atStart => exact ⟨0, [], by omega, rfl, hid (World.ownsRow_nil _ _ _ _), hid (fun x hx => by cases hx), hid List.Pairwise.nil, hid (List.Perm.refl _), Below.refl _ _⟩
  case round =>
    obtain ⟨k, lo, hk, rfl, HO, HM, HS, HP, hbel⟩ := hrel
    have hsz := hbel.size
    by_cases hlt : k < l.length
    · obtain ⟨b, o, rfl, hcell⟩ := HE.out.1 (by omega)
      have e0 := hcell k hlt
      have hbl := cell_lt e0
      rw [← hbel.cell (cell_lt e0)] at e0
      have e0w := hid e0
      have hxm : l[k] ∈ l := List.getElem_mem hlt
      have hTk : Hid ((l.take (k + 1)).map El.r = (l.take k).map El.r ++ [l[k].r]) := hid (by rw [List.take_succ_eq_append_getElem hlt, List.map_append]; rfl)
      generalize l[k] = x at *
      have HXM := hid hxm
      clear hcell hxm
      obtain ⟨hlo, hlit⟩ := own_lit HO.out
      rcases hlit with ⟨rfl, h0⟩ | ⟨g, cap, rfl, hg1, hg2, hcap, hcells⟩
      · -- the first row
        have hk0 : k ≤ 0 := by omega
        have hlo0 : lo = [] := List.eq_nil_of_length_eq_zero (by omega)
        have HLO0 := hid hlo0
        clear h0 hlo hlo0 e0
        go_wp2
        refine wp_loop_rounds 1 ?_
        rw [rounds_succ]
        go_wp2
        go_big_region
        have kb : Below wr.heap.size wr wr.drew := below_drewN (Below.refl _ _) 1
        generalize wr.drew = w1 at kb ⊢
        have k1 := hbel.trans (kb.mono hsz)
        have hs1 := k1.size
        have e9 := (kb.cell (cell_lt e0w.out)).trans e0w.out
        simp only [El.val] at e9
        have hown0 : w1.ownsRow w1.heap.size 39 1 (.slice none 0 0) 0 [] := World.ownsRow_nil _ _ _ _
        clear kb
        go_upto_region 10 with (at_builtin; refine wpList_append_own_none rfl _ _ _ rfl w1.heap.size 39 i0 1 Tryd.underlying26 hi _ 0 [] rfl hown0 rfl ?_)
        go_upto_region 11 with (at_builtin; refine wpList_append_new_at Tryd.underlying26 hi hz0 hz1 hz2 rfl (by decide) (by decide) rfl rfl rfl hown0 rfl (by simp) rfl rfl (by omega) (by omega) ?_; intro v3 w3 hown3 hg3 hat3)
        have kb3 := grown_below hown0 hg3 (Nat.le_refl _)
        go_wp2_with (at_builtin; refine wpList_append_own_none rfl _ _ _ rfl w1.heap.size 39 i0 1 Tryd.underlying26 hi _ _ _ rfl hown3 rfl ?_)
        go_roundw
        case rel =>
          refine ⟨k + 1, [x], by omega, by go_num, hid ?_, hid ?_, hid ?_, hid ?_, k1.trans (kb3.mono hs1)⟩
          · refine own_base (B' := w1.heap.size) ?_ hs1
            rw [show k + 1 = 0 + 1 by omega]
            exact hown3
          · intro y hy
            rw [List.mem_singleton] at hy
            rw [hy]; exact HXM.out
          · exact List.pairwise_singleton _ _
          · have h6 := HP.out
            rw [HLO0.out] at h6
            have h7 : (l.take k).map El.r = [] := List.Perm.eq_nil h6.symm
            rw [hTk.out, h7]
            exact List.Perm.refl _
        case measure => simp [intOf]; omega
      · rename World => wo
        have HC0 := hid hcells
        have HLO := hid hlo
        clear hcells hlo
        go_wp2
        go_loopw [7] (fun q wr => ∃ p : Nat, p ≤ k ∧ q = .int .i64 p ∧ Hid (∀ j (h : j < lo.length), p ≤ j → 0 < rowCmp d lo[j].r x.r) ∧ Below wo.heap.size wo wr) (fun q _ => (intOf q).toNat)
        case atStart => exact ⟨k, by omega, rfl, hid (fun j h1 h2 => by have := HLO.out; omega), Below.refl _ _⟩
        case round =>
          obtain ⟨p, hpk, rfl, HI, hb1⟩ := hrel
          have hsz1 := hb1.size
          by_cases hp0 : 0 < p
          · obtain ⟨pq, hpq⟩ : ∃ q, q = p - 1 := ⟨_, rfl⟩
            have hpl : pq < lo.length := by have := HLO.out; omega
            have e1 := HC0.out pq hpl
            rw [← hb1.cell (cell_lt e1)] at e1
            rw [← hb1.cell (cell_lt e0)] at e0
            obtain ⟨z, hz⟩ : ∃ z, rowCmp d lo[pq].r x.r = z := ⟨_, rfl⟩
            have hC := HCm.out lo[pq] x wr.drew (HM.out _ (List.getElem_mem hpl)) HXM.out ((hbel.trans (hb1.mono hsz)).drew)
            rw [hz] at hC
            have HC := hid hC
            have hI2 : 0 < z → ∀ j (h : j < lo.length), pq ≤ j → 0 < rowCmp d lo[j].r x.r := fun h0 j h hj => by
              by_cases e : j = pq
              · subst e; rw [hz]; exact h0
              · exact HI.out j h (by omega)
            have HI2 := hid hI2
            have hZ : Hid (¬ 0 < z → ∃ h : p - 1 < lo.length, rowCmp d lo[p - 1].r x.r ≤ 0) := hid (fun h => ⟨by omega, by
              have e : p - 1 = pq := hpq.symm
              simp only [e]
              rw [hz]
              omega⟩)
            have epq : (p : Int) - 1 = (pq : Int) := by omega
            have r1 : IntKind.i64.wrap ((p : Int) - 1) = (pq : Int) := by rw [IntKind.wrap_i64]; omega
            have r2 : IntKind.i64.wrap (pq : Int) = (pq : Int) := by rw [IntKind.wrap_i64]; omega
            have hkq : (pq : Int) < (k : Int) := by omega
            have hgt : decide ((0 : Int) < (p : Int)) = true := decide_eq_true (by omega)
            have Hpq := hid hpq
            clear hC hz hpq hI2
            generalize lo[pq] = y1 at *
            simp only [El.val] at e0 e1
            by_cases hz9 : 0 < z
            · have dz : decide (0 < z) = true := decide_eq_true hz9
              clear hZ HI
              go_wp2
              go_still_tail 13, (by kernel_rfl)
              change wpList _ _ _ _ _ wr.drew
              go_wp2_with fail
              refine HC.out.mono ?_
              rintro e w1 ⟨rfl, b1⟩
              go_wp2
              go_roundw
              case rel => exact ⟨pq, by omega, rfl, hid (HI2.out hz9), (hb1.drew).trans (b1.mono hsz1)⟩
              case measure => simp [intOf]; have := Hpq.out; omega
            · have dz : decide (0 < z) = false := decide_eq_false hz9
              have HZ := hid (hZ.out hz9)
              clear hZ HI2
              go_wp2
              go_still_tail 13, (by kernel_rfl)
              change wpList _ _ _ _ _ wr.drew
              go_wp2_with fail
              refine HC.out.mono ?_
              rintro e w1 ⟨rfl, b1⟩
              have kb := hb1.drew.trans (b1.mono hsz1)
              have HLo : Hid (0 < p → ∃ h : p - 1 < lo.length, rowCmp d lo[p - 1].r x.r ≤ 0) := hid (fun _ => HZ.out)
              clear b1 HC HZ e1 e0 r1 r2 epq
              have k1 := hbel.trans (kb.mono hsz)
              have hs1 := k1.size
              have hsb := kb.size
              have e9 := (kb.cell (cell_lt e0w.out)).trans e0w.out
              have HT1 : Hid (∀ j u, ((lo.take p).map El.val)[j]? = some u → w1.cell? ((⟨g, 0, none⟩ : Addr).add j) = some u) := hid (fun j u hj => by
                rw [List.getElem?_map, List.getElem?_take] at hj
                split at hj
                · rename_i hjp
                  have hjl : j < lo.length := by have := HLO.out; omega
                  rw [List.getElem?_eq_getElem hjl] at hj
                  rw [Addr.add_lit, Nat.zero_add, (kb.cell (p := ⟨g, j, none⟩) hg2).trans (HC0.out j hjl)]
                  exact hj
                · cases hj)
              have HT2 : Hid (∀ j u, ((lo.drop p).map El.val)[j]? = some u → w1.cell? ⟨g, p + j, none⟩ = some u) := hid (fun j u hj => by
                rw [List.getElem?_map, List.getElem?_drop] at hj
                have hjl : p + j < lo.length := by
                  apply Nat.lt_of_not_le
                  intro hc
                  rw [List.getElem?_eq_none hc] at hj
                  cases hj
                rw [List.getElem?_eq_getElem hjl] at hj
                rw [(kb.cell (p := ⟨g, p + j, none⟩) hg2).trans (HC0.out (p + j) hjl)]
                exact hj)
              have hown0 : w1.ownsRow w1.heap.size 39 1 (.slice none 0 0) 0 (([] : List El).map El.val) := World.ownsRow_nil _ _ _ _
              have hln : (lo.take p).length = p := by rw [List.length_take]; have := HLO.out; omega
              have hls : (lo.drop p).length = k - p := by rw [List.length_drop]; have := HLO.out; omega
              have HLN := hid hln
              have HLS := hid hls
              simp only [El.val] at e9
              clear hln hls hb1
              go_upto_region 10 with (at_builtin; refine wpList_append_els rfl _ _ rfl rfl hown0 rfl HLN.out HT1.out (by omega) (Nat.le_refl _) ?_; intro v2 w2 hown2 hg2' kb2)
              have e9' := (kb2.cell (by have := cell_lt e9; show b < w1.heap.size; omega)).trans e9
              have hs2 := kb2.size
              clear e9 hown0
              go_upto_region 11 with (at_builtin; refine wpList_append_new_at Tryd.underlying26 hi hz0 hz1 hz2 rfl (by decide) (by decide) rfl rfl rfl hown2 rfl (by simp) rfl rfl (by omega) (by omega) ?_; intro v3 w3 hown3 hg3 hat3)
              have kb3 : Below w1.heap.size w1 w3 := kb2.trans (grown_below hown2 hg3 (by omega))
              have hown3' : w3.ownsRow w1.heap.size 39 1 v3 (p + 1) ((lo.take p ++ [x]).map El.val) := by
                rw [List.map_append, show p + 1 = 0 + p + 1 by omega]
                exact hown3
              obtain ⟨a9, ha9, hb9⟩ : ∃ a, (if cap = p then some (⟨g, 0, none⟩ : Addr) else some ⟨g, p, none⟩) = some ⟨g, a, none⟩ ∧ (p < k → a = p) := by
                by_cases h : cap = p
                · exact ⟨0, by rw [if_pos h], fun h2 => by omega⟩
                · exact ⟨p, by rw [if_neg h], fun _ => rfl⟩
              have HT3 : Hid (∀ j u, ((lo.drop p).map El.val)[j]? = some u → w3.cell? ((⟨g, a9, none⟩ : Addr).add j) = some u) := hid (fun j u hj => by
                have hpk2 : p < k := by
                  have h5 := (List.getElem?_eq_some_iff.1 hj).1
                  rw [List.length_map, HLS.out] at h5
                  omega
                rw [Addr.add_lit, hb9 hpk2]
                exact (kb3.cell (p := ⟨g, p + j, none⟩) (by show g < w1.heap.size; omega)).trans (HT2.out j u hj))
              have HB3 := hid kb3
              have hs3 := kb3.size
              clear hb9 hown3 hg3 hat3 hown2 kb2 kb3 hg2' HT1 HT2 e9'
              go_wp2_with (at_builtin; refine wpList_append_els rfl _ _ rfl rfl hown3' rfl HLS.out HT3.out (by omega) (by omega) ?_; intro v4 w4 hown4 hg4 kb4)
              go_roundw
              case rel =>
                have emap : (lo.take p ++ x :: lo.drop p).map El.r = (lo.map El.r).take p ++ x.r :: (lo.map El.r).drop p := by rw [List.map_append, List.map_cons, List.map_take, List.map_drop]
                refine ⟨k + 1, lo.take p ++ x :: lo.drop p, by omega, by go_num, hid ?_, hid ?_, hid ?_, hid ?_, k1.trans ((HB3.out.trans kb4).mono hs1)⟩
                · refine own_base (B' := w1.heap.size) ?_ hs1
                  have h6 := hown4
                  rw [List.append_assoc, show p + 1 + (k - p) = k + 1 by omega] at h6
                  exact h6
                · intro y hy
                  rcases List.mem_append.1 hy with hy | hy
                  · exact HM.out y (List.mem_of_mem_take hy)
                  · rcases List.mem_cons.1 hy with hy | hy
                    · rw [hy]; exact HXM.out
                    · exact HM.out y (List.mem_of_mem_drop hy)
                · rw [emap]
                  refine ins_at HS.out (by rw [List.length_map]; have := HLO.out; omega) (fun j h5 hj => ?_) (fun h5 => ?_)
                  · rw [List.getElem_map]
                    exact HI.out j (by simpa using h5) hj
                  · obtain ⟨h6, h7⟩ := HLo.out h5
                    rw [List.getElem_map]
                    exact h7
                · rw [emap]
                  refine (ins_perm p).trans ?_
                  rw [hTk.out]
                  exact HP.out.append_right _
              case measure => simp [intOf]; omega
          · have HLo : Hid (0 < p → ∃ h : p - 1 < lo.length, rowCmp d lo[p - 1].r x.r ≤ 0) := hid (fun h => absurd h hp0)
            have hgt : decide ((0 : Int) < (p : Int)) = false := decide_eq_false (by omega)
            go_wp2
            go_big_region
            have kb := hb1.drew
            generalize wr.drew = w1 at kb ⊢
            clear e0
            have k1 := hbel.trans (kb.mono hsz)
            have hs1 := k1.size
            have hsb := kb.size
            have e9 := (kb.cell (cell_lt e0w.out)).trans e0w.out
            have HT1 : Hid (∀ j u, ((lo.take p).map El.val)[j]? = some u → w1.cell? ((⟨g, 0, none⟩ : Addr).add j) = some u) := hid (fun j u hj => by
              rw [List.getElem?_map, List.getElem?_take] at hj
              split at hj
              · rename_i hjp
                have hjl : j < lo.length := by have := HLO.out; omega
                rw [List.getElem?_eq_getElem hjl] at hj
                rw [Addr.add_lit, Nat.zero_add, (kb.cell (p := ⟨g, j, none⟩) hg2).trans (HC0.out j hjl)]
                exact hj
              · cases hj)
            have HT2 : Hid (∀ j u, ((lo.drop p).map El.val)[j]? = some u → w1.cell? ⟨g, p + j, none⟩ = some u) := hid (fun j u hj => by
              rw [List.getElem?_map, List.getElem?_drop] at hj
              have hjl : p + j < lo.length := by
                apply Nat.lt_of_not_le
                intro hc
                rw [List.getElem?_eq_none hc] at hj
                cases hj
              rw [List.getElem?_eq_getElem hjl] at hj
              rw [(kb.cell (p := ⟨g, p + j, none⟩) hg2).trans (HC0.out (p + j) hjl)]
              exact hj)
            have hown0 : w1.ownsRow w1.heap.size 39 1 (.slice none 0 0) 0 (([] : List El).map El.val) := World.ownsRow_nil _ _ _ _
            have hln : (lo.take p).length = p := by rw [List.length_take]; have := HLO.out; omega
            have hls : (lo.drop p).length = k - p := by rw [List.length_drop]; have := HLO.out; omega
            have HLN := hid hln
            have HLS := hid hls
            simp only [El.val] at e9
            clear hln hls hb1
            go_upto_region 10 with (at_builtin; refine wpList_append_els rfl _ _ rfl rfl hown0 rfl HLN.out HT1.out (by omega) (Nat.le_refl _) ?_; intro v2 w2 hown2 hg2' kb2)
            have e9' := (kb2.cell (by have := cell_lt e9; show b < w1.heap.size; omega)).trans e9
            have hs2 := kb2.size
            clear e9 hown0
            go_upto_region 11 with (at_builtin; refine wpList_append_new_at Tryd.underlying26 hi hz0 hz1 hz2 rfl (by decide) (by decide) rfl rfl rfl hown2 rfl (by simp) rfl rfl (by omega) (by omega) ?_; intro v3 w3 hown3 hg3 hat3)
            have kb3 : Below w1.heap.size w1 w3 := kb2.trans (grown_below hown2 hg3 (by omega))
            have hown3' : w3.ownsRow w1.heap.size 39 1 v3 (p + 1) ((lo.take p ++ [x]).map El.val) := by
              rw [List.map_append, show p + 1 = 0 + p + 1 by omega]
              exact hown3
            obtain ⟨a9, ha9, hb9⟩ : ∃ a, (if cap = p then some (⟨g, 0, none⟩ : Addr) else some ⟨g, p, none⟩) = some ⟨g, a, none⟩ ∧ (p < k → a = p) := by
              by_cases h : cap = p
              · exact ⟨0, by rw [if_pos h], fun h2 => by omega⟩
              · exact ⟨p, by rw [if_neg h], fun _ => rfl⟩
            have HT3 : Hid (∀ j u, ((lo.drop p).map El.val)[j]? = some u → w3.cell? ((⟨g, a9, none⟩ : Addr).add j) = some u) := hid (fun j u hj => by
              have hpk2 : p < k := by
                have h5 := (List.getElem?_eq_some_iff.1 hj).1
                rw [List.length_map, HLS.out] at h5
                omega
              rw [Addr.add_lit, hb9 hpk2]
              exact (kb3.cell (p := ⟨g, p + j, none⟩) (by show g < w1.heap.size; omega)).trans (HT2.out j u hj))
            have HB3 := hid kb3
            have hs3 := kb3.size
            clear hb9 hown3 hg3 hat3 hown2 kb2 kb3 hg2' HT1 HT2 e9'
            go_wp2_with (at_builtin; refine wpList_append_els rfl _ _ rfl rfl hown3' rfl HLS.out HT3.out (by omega) (by omega) ?_; intro v4 w4 hown4 hg4 kb4)
            go_roundw
            case rel =>
              have emap : (lo.take p ++ x :: lo.drop p).map El.r = (lo.map El.r).take p ++ x.r :: (lo.map El.r).drop p := by rw [List.map_append, List.map_cons, List.map_take, List.map_drop]
              refine ⟨k + 1, lo.take p ++ x :: lo.drop p, by omega, by go_num, hid ?_, hid ?_, hid ?_, hid ?_, k1.trans ((HB3.out.trans kb4).mono hs1)⟩
              · refine own_base (B' := w1.heap.size) ?_ hs1
                have h6 := hown4
                rw [List.append_assoc, show p + 1 + (k - p) = k + 1 by omega] at h6
                exact h6
              · intro y hy
                rcases List.mem_append.1 hy with hy | hy
                · exact HM.out y (List.mem_of_mem_take hy)
                · rcases List.mem_cons.1 hy with hy | hy
                  · rw [hy]; exact HXM.out
                  · exact HM.out y (List.mem_of_mem_drop hy)
              · rw [emap]
                refine ins_at HS.out (by rw [List.length_map]; have := HLO.out; omega) (fun j h5 hj => ?_) (fun h5 => ?_)
                · rw [List.getElem_map]
                  exact HI.out j (by simpa using h5) hj
                · obtain ⟨h6, h7⟩ := HLo.out h5
                  rw [List.getElem_map]
                  exact h7
              · rw [emap]
                refine (ins_perm p).trans ?_
                rw [hTk.out]
                exact HP.out.append_right _
            case measure => simp [intOf]; omega
    · have ek : k = l.length := by omega
      subst ek
      have HR2 : Hid (lo.map El.r = sortR d (l.map El.r)) := hid (sortR_one (by have := HP.out; rw [List.take_of_length_le (Nat.le_refl _)] at this; exact this) HS.out)
      obtain ⟨A', c', rfl, hn, hE⟩ := own_elsN HO.out (fun y hy => (HE.out.2 y (HM.out y hy)).below hbel)
      have HE2 := hid hE
      have HL := hid hn
      clear hE hn HO HM HS HP
      go_wp2
      go_ret
      exact ⟨A', c', lo, (by rw [HL.out]; rfl), HE2.out, HR2.out, hbel⟩
end Go.Proofs.YtaghaigckgckpaaDoor
