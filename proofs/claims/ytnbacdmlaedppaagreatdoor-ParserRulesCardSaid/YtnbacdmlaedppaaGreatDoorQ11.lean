/-
  PARTS of a claim, merged by segs.py: Ast10.
-/
import Derived.Test.YtnbacdmlaedppaaGreatDoorQ10
import Derived.Lib.AppendZeros
import Derived.Lib.SliceRun
import Derived.Laws.AppendOwnNone
namespace Go.Proofs.YtnbacdmlaedppaaGreatDoor

/-! ### Ast10 -/
section
open Go.RowKit

theorem nm_cells {w : World} {a : Addr} {l : List Str} (h : NmsAt w (some a) l) : ∀ j u, (l.map nmV)[j]? = some u → w.cell? (a.add j) = some u := by
  intro j u hj
  have hjl : j < l.length := by have := (List.getElem?_eq_some_iff.1 hj).1; simpa using this
  obtain ⟨b, o, e, hc⟩ := h (by omega)
  injection e with e
  subst e
  rw [Addr.add_lit, hc j hjl]
  rw [List.getElem?_map, List.getElem?_eq_getElem hjl] at hj
  exact hj
theorem nm_one (l : List Str) : ∀ u ∈ l.map nmV, u.oneCell' = true := by
  intro u hu
  obtain ⟨x, _, rfl⟩ := List.mem_map.1 hu
  rfl

set_option maxRecDepth 100000 in
set_option maxHeartbeats 2000000 in
theorem sl_clone (A : Option Addr) (c : Nat) (l : List Str) (w : World) (hl : NmsAt w A l) (hm : l.length ≤ 100000) :
    Calls Tryz.prog 59 #[.slice A l.length c] w fun e w' => ∃ u, e = .returned u ∧ w'.ownsRow w.heap.size 9 1 u l.length (l.map nmV) ∧ Below w.heap.size w w' := by
  obtain ⟨i0, hi, hz0, hz1, hz2⟩ := info_parts infoStr
  have q22 : ∀ (w : World) (a : Option Addr) (n c n' c' : Nat), (binOp .eql 23 (.slice a n c) (.slice none n' c')).run Tryz.prog w = .ok (.bool a.isNone) w := fun w a n c n' c' => Lib.run_eql_slice_nil w _ _ a n c n' c' Tryz.underlying23
  cases A with
  | none =>
    have h0 : l = [] := by
      cases l with
      | nil => rfl
      | cons x r => obtain ⟨b, o, e, _⟩ := hl (by simp); cases e
    subst h0
    go_enter Tryz.func59, Tryz.ntmps59
    go_wp2
    go_ret
    exact ⟨_, rfl, World.ownsRow_nil _ _ _ _, Below.refl _ _⟩
  | some a =>
    have HL := hid hl
    clear hl
    go_enter Tryz.func59, Tryz.ntmps59
    go_wp2_with (at_builtin; refine wpList_append_own _ rfl _ _ 23 rfl w.heap.size 9 i0 (.string ⟨#[]⟩) 1 16 Tryz.underlying23 hi hz0 hz1 hz2 rfl (by decide) _ _ _ rfl (World.ownsRow_made w #[] 0 (Nat.le_refl _) (Nat.zero_le _) rfl) a l.length c (l.map nmV) rfl ?qc1 ?qc2 ?qc3 ?qc4 ?qc5 ?qc6 ?_)
    case qc1 => simp
    case qc2 =>
      intro j u hj
      exact Lib.cell?_alloc_some _ (nm_cells HL.out j u hj)
    case qc3 => exact nm_one l
    case qc4 => unfold maxLen; omega
    case qc5 => omega
    case qc6 => simp
    intro v' w1 hown hgrow hnil
    go_wp2
    go_ret
    refine ⟨v', rfl, by simpa using hown, ?_⟩
    exact ((Below.refl _ w).alloc (Nat.le_refl _) _).grown hgrow (by simp) (by intro k hk; simp [Value.ownBlock] at hk; omega)

set_option maxRecDepth 100000 in
set_option maxHeartbeats 2000000 in
theorem sl_grow (n : Nat) (w : World) (hn : n ≤ 100000) :
    Calls Tryz.prog 91 #[.slice none 0 0, .int .i64 n] w fun e w' => ∃ u, e = .returned u ∧ w'.ownsRow w.heap.size 9 1 u 0 [] ∧ Below w.heap.size w w' := by
  obtain ⟨i0, hi, hz0, hz1, hz2⟩ := info_parts infoStr
  by_cases h0 : n = 0
  · subst h0
    go_enter Tryz.func91, Tryz.ntmps91
    go_wp2
    go_ret
    exact ⟨_, rfl, World.ownsRow_nil _ _ _ _, Below.refl _ _⟩
  · have hpos : 0 < n := by omega
    have hge := grownCap_ge w n 0 9
    have hcm := grownCap_le_maxLen w n 0 9 (by unfold maxLen; omega)
    clear h0
    go_enter Tryz.func91, Tryz.ntmps91
    go_wp2_with (at_builtin; refine Lib.wpList_append_run _ rfl _ _ _ _ rfl _ _ rfl rfl _ _ (Lib.run_append_nil_zeros w 23 3 _ 9 i0 (.string ⟨#[]⟩) .i64 .i64 Tryz.underlying23 Tryz.underlying3 hi hz0 n hpos (by omega) (by omega) (by rw [hz2]; omega)) ?_)
    go_ret
    refine ⟨_, rfl, ?_, ((Below.refl _ w).drew).alloc (Nat.le_refl _) _⟩
    exact World.ownsRow_made (base := w.heap.size) w.drew _ _ (Nat.le_refl _) hcm (by rw [Array.size_append, size_zeroCells, size_zeroCells]; simp; omega)

theorem own_cells {w : World} {B : Nat} {g n c : Nat} {l : List Str} (h : w.ownsRow B 9 1 (.slice (some ⟨g, 0, none⟩) n c) l.length (l.map nmV)) : ∀ j u, (l.map nmV)[j]? = some u → w.cell? ((⟨g, 0, none⟩ : Addr).add j) = some u := h.cells rfl
theorem own_belowS {w w' : World} {B : Nat} {e : TypeId} {size n : Nat} {v : Value} {xs : List Value} (h : w.ownsRow B e size v n xs) (hb : Below w.heap.size w w') : w'.ownsRow B e size v n xs := by
  obtain ⟨hl, h0 | ⟨g, cap, cur, hv, hB, hh, r⟩⟩ := h
  · exact ⟨hl, .inl h0⟩
  · exact ⟨hl, .inr ⟨g, cap, cur, hv, hB, (hb.block g (lt_of_block hh)).trans hh, r⟩⟩

set_option maxRecDepth 100000 in
set_option maxHeartbeats 4000000 in
/-- One round of the second loop, as a law at the append: a row of names is appended to one of the call's own. -/
theorem wpList_append_names {w : World} {ops : Array Oper} {rest : List Oper} {o : Oper} {a : Act} {Q : Exit → Act → World → Prop} (hgd : o.guard = none) (s x : Operand)
    (ho : o.op = .call { callee := .builtin .append, args := #[s, x], argTypes := #[23, 23] }) {base B1 : Nat} {v v1 : Value} {n : Nat} {acc l : List Str}
    (hs : a.eval s = v) (hown : w.ownsRow base 9 1 v n (acc.map nmV)) (hx : a.eval x = v1) (h1 : w.ownsRow B1 9 1 v1 l.length (l.map nmV)) (hn : n + l.length ≤ 100000) (hb : base ≤ w.heap.size)
    (h : ∀ v' w', w'.ownsRow base 9 1 v' (n + l.length) ((acc ++ l).map nmV) → Below base w w' → wpList Tryz.prog ops Q rest (a.put o.dst v') w') : wpList Tryz.prog ops Q (o :: rest) a w := by
  obtain ⟨i0, hi, hz0, hz1, hz2⟩ := info_parts infoStr
  rcases h1.2 with ⟨rfl, h0⟩ | ⟨g, cap, cur, rfl, hB, hh, hrest⟩
  · have hl0 : l = [] := List.length_eq_zero_iff.1 h0
    subst hl0
    refine wpList_append_own_none hgd s x 23 ho base 9 i0 1 Tryz.underlying23 hi v n (acc.map nmV) hs hown hx ?_
    exact h v w (by simpa using hown) (Below.refl _ _)
  · refine wpList_append_own _ hgd s x 23 ho base 9 i0 (.string ⟨#[]⟩) 1 16 Tryz.underlying23 hi hz0 hz1 hz2 rfl (by decide) v n (acc.map nmV) hs hown ⟨g, 0, none⟩ l.length cap (l.map nmV) hx ?_ ?_ ?_ ?_ ?_ ?_ ?_
    · simp
    · exact own_cells h1
    · exact nm_one l
    · unfold maxLen; omega
    · omega
    · exact hb
    · intro v' w1 hown1 hg1 _
      refine h v' w1 (by rw [List.map_append]; exact hown1) ((Below.refl _ _).grown hg1 hb (fun j hj => (hown.lt j hj).1))

set_option maxRecDepth 100000 in
set_option maxHeartbeats 4000000 in
theorem sl_concat (u1 u2 : Value) (B1 B2 g : Nat) (l1 l2 : List Str) (w : World) (h1 : w.ownsRow B1 9 1 u1 l1.length (l1.map nmV)) (h2 : w.ownsRow B2 9 1 u2 l2.length (l2.map nmV)) (hm1 : l1.length ≤ 1000) (hm2 : l2.length ≤ 1000)
    (e0 : w.cell? ⟨g, 0, none⟩ = some u1) (e1 : w.cell? ⟨g, 1, none⟩ = some u2) :
    Calls Tryz.prog 63 #[.slice (some ⟨g, 0, none⟩) 2 2] w fun e w' => ∃ u, e = .returned u ∧ w'.ownsRow w.heap.size 9 1 u (l1.length + l2.length) ((l1 ++ l2).map nmV) ∧ Below w.heap.size w w' := by
  obtain ⟨A1, c1, hu1, _, _⟩ := own_names h1
  obtain ⟨A2, c2, hu2, _, _⟩ := own_names h2
  rw [hu1] at e0 h1
  rw [hu2] at e1 h2
  clear hu1 hu2
  have H1 := hid h1
  have H2 := hid h2
  have hgl : g < w.heap.size := cell_lt e0
  clear h1 h2
  go_enter Tryz.func63, Tryz.ntmps63
  go_wp2
  go_loop [3, 11] (fun z i => ∃ k m : Nat, k ≤ 2 ∧ i = .int .i64 k ∧ z = .int .i64 m ∧ m ≤ k * 1000) (fun _ i => 2 - (intOf i).toNat)
  case atStart => exact ⟨0, 0, by omega, rfl, rfl, by omega⟩
  case round =>
    obtain ⟨k, m, hk, rfl, rfl, hm⟩ := hrel
    by_cases hlt : k < 2
    · by_cases hk0 : k = 0
      · subst hk0
        go_wp2
        go_round
        case rel => exact ⟨1, m + l1.length, by omega, by go_num, by go_num, by omega⟩
        case measure => simp [intOf]
      · have hk1 : k = 1 := by omega
        subst hk1
        go_wp2
        go_round
        case rel => exact ⟨2, m + l2.length, by omega, by go_num, by go_num, by omega⟩
        case measure => simp [intOf]
    · have hk2 : k = 2 := by omega
      subst hk2
      have H3 := fun W => hid (sl_grow m W (by omega))
      go_wp2_with fail
      refine (H3 _).out.mono ?_
      rintro e w1 ⟨u, rfl, hown, b1⟩
      have HO := hid hown
      clear hown H3
      go_wp2
      go_loopw [6, 27] (fun u i wr => ∃ (k : Nat) (acc : List Str), k ≤ 2 ∧ i = .int .i64 k ∧ Hid (wr.ownsRow w.heap.size 9 1 u acc.length (acc.map nmV)) ∧ Hid (acc = (([l1, l2] : List (List Str)).take k).flatten) ∧ acc.length ≤ k * 1000 ∧ Below w.heap.size w wr) (fun _ i _ => 2 - (intOf i).toNat)
      case atStart => exact ⟨0, [], by omega, rfl, HO, hid rfl, by simp, b1⟩
      case round =>
        obtain ⟨j, acc, hj, rfl, HR, HE, hal, hbel⟩ := hrel
        have hsz := hbel.size
        clear HO
        have f0 := cell_keep hbel e0
        have f1 := cell_keep hbel e1
        have K1 := hid (own_belowS H1.out hbel)
        have K2 := hid (own_belowS H2.out hbel)
        by_cases hjt : j < 2
        · by_cases hj0 : j = 0
          · subst hj0
            have he : acc = [] := by rw [HE.out]; rfl
            subst he
            clear HE
            go_wp2_with (at_builtin; refine wpList_append_names rfl _ _ rfl rfl HR.out rfl K1.out (by simp; omega) hsz ?_; intro v3 w3 hown3 b3)
            have HO3 := hid hown3
            have hb3 := hbel.trans b3
            clear hown3 b3
            go_roundw
            case rel => exact ⟨1, l1, by omega, rfl, hid (by simpa using HO3.out), hid (by simp), by omega, hb3⟩
            case measure => simp [intOf]
          · have hj1 : j = 1 := by omega
            subst hj1
            have he : acc = l1 := by rw [HE.out]; simp
            subst he
            clear HE
            go_wp2_with (at_builtin; refine wpList_append_names rfl _ _ rfl rfl HR.out rfl K2.out (by omega) hsz ?_; intro v3 w3 hown3 b3)
            have HO3 := hid hown3
            have hb3 := hbel.trans b3
            clear hown3 b3
            go_roundw
            case rel => exact ⟨2, acc ++ l2, by omega, rfl, hid (by rw [List.length_append]; exact HO3.out), hid (by simp), by simp; omega, hb3⟩
            case measure => simp [intOf]
        · have hj2 : j = 2 := by omega
          subst hj2
          have he : acc = l1 ++ l2 := by rw [HE.out]; simp
          subst he
          clear HE
          go_wp2
          go_ret
          exact ⟨_, rfl, by have := HR.out; rw [List.length_append] at this; exact this, hbel⟩
end
end Go.Proofs.YtnbacdmlaedppaaGreatDoor
