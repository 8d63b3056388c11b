/-
  WALK: ast.Check.
-/
import Derived.Test.YtgeapgbebbapmaaDoorAst11
namespace Go.Proofs.YtgeapgbebbapmaaDoor
open Go.RowKit

theorem headGo_zero : ∀ (l pre : List Str), headGo pre l = 0 → (∀ v ∈ l, nameB v = true ∧ v ∉ pre) ∧ l.Nodup
  | [], _, _ => by simp
  | v :: l, pre, h => by
    unfold headGo at h
    split at h
    · exact absurd h (by decide)
    · rename_i h1
      split at h
      · exact absurd h (by decide)
      · rename_i h2
        obtain ⟨h3, h4⟩ := headGo_zero l (pre ++ [v]) h
        refine ⟨fun u hu => ?_, ?_⟩
        · rcases List.mem_cons.1 hu with rfl | hu
          · exact ⟨by simpa using h1, h2⟩
          · exact ⟨(h3 u hu).1, fun e => (h3 u hu).2 (List.mem_append_left _ e)⟩
        · rw [List.nodup_cons]
          exact ⟨fun e => (h3 v e).2 (by simp), h4⟩
theorem headE_zero {l : List Str} (h : headE l = 0) : l.length ≤ 6 ∧ (∀ v ∈ l, nameB v = true) ∧ l.Nodup := by
  unfold headE at h
  split at h
  · exact absurd h (by decide)
  · obtain ⟨h1, h2⟩ := headGo_zero l [] h
    exact ⟨by omega, fun v hv => (h1 v hv).1, h2⟩
theorem need_ne {q : Qry} (h : headE q.head = 0) : ∀ v ∈ needL q, v ≠ [] := by
  intro v hv
  unfold needL at hv
  rcases List.mem_append.1 hv with h1 | h1
  · exact nameB_ne ((headE_zero h).2.1 v h1)
  · split at h1
    · cases h1
    · rename_i h2
      rw [List.mem_singleton.1 h1]; exact h2

set_option maxRecDepth 100000 in
set_option maxHeartbeats 4000000 in
theorem ast_check (q : Qry) (A R O : Option Addr) (ch cr co : Nat) (w : World) (hq : QryIn w q A R O ch cr co) (hwf : q.wf) {x : Int} (hx : checkQ q = x) :
    Calls Tryd.prog 11 #[qryV q A R O ch cr co] w fun e w' => e = .returned (.int .i64 x) ∧ Below w.heap.size w w' := by
  have HQ := hid hq
  have HW := hid hwf
  obtain ⟨y1, e1⟩ : ∃ y, headE q.head = y := ⟨_, rfl⟩
  obtain ⟨y2, e2⟩ : ∃ y, aggE q = y := ⟨_, rfl⟩
  obtain ⟨y3, e3⟩ : ∃ y, firstE (ruleE q) q.rules = y := ⟨_, rfl⟩
  obtain ⟨y4, e4⟩ : ∃ y, orderE q = y := ⟨_, rfl⟩
  have C1 := fun W h => hid (ast_checkHead A ch q.head W h hq.lh hq.mh e1)
  have C2 := fun W => hid (ast_checkAggregate q (.slice A q.head.length ch) (.slice R q.rules.length cr) (.slice O q.order.length co) W e2)
  have C3 := fun W h h6 hne => hid (ast_checkRules q A R O ch cr co W h HW.out h6 hne e3)
  have C4 := fun W h => hid (ast_checkOrder q A R O ch cr co W h HW.out e4)
  have hz6 := fun h : y1 = 0 => (headE_zero (e1.trans h)).1
  have hzn := fun h : y1 = 0 => need_ne (e1.trans h)
  have HZ6 := hid hz6
  have HZN := hid hzn
  unfold checkQ at hx
  rw [e1, e2, e3, e4] at hx
  have hr0 : q.rules = [] ↔ q.rules.length = 0 := List.length_eq_zero_iff.symm
  simp only [hr0] at hx
  obtain ⟨mh, mr, mo⟩ := (⟨hq.mh, hq.mr, hq.mo⟩ : _ ∧ _ ∧ _)
  obtain ⟨Y, hY, _, _⟩ := nm q.aggVar
  unfold qryV at C3 C4 ⊢
  rw [hY] at C2 ⊢
  simp only [hY] at C3 C4
  clear e1 e2 e3 e4 hz6 hzn hr0 hY hq hwf
  obtain ⟨hd, ga, av, rs, os⟩ := q
  simp only at *
  have HB : Hid (Below (w.heap.size + 1) (w.alloc (.cells #[.slice A hd.length ch, .int .i64 ga, .string Y, .slice R rs.length cr, .slice O os.length co] 26)) (w.alloc (.cells #[.slice A hd.length ch, .int .i64 ga, .string Y, .slice R rs.length cr, .slice O os.length co] 26))) := hid (Below.refl _ _)
  obtain ⟨_, _, _, _, _, _, hb0⟩ := qry_cells HB.out
  have HX := hid hx
  clear hx
  by_cases h0 : rs.length = 0
  · have hx := HX.out
    rw [if_pos h0] at hx
    subst hx
    have bz0 : ((rs.length : Int) == 0) = true := by rw [beq_iff_eq]; omega
    clear h0 HX C1 C2 C3 C4 HB
    go_enter Tryd.func11, Tryd.ntmps11
    go_wp2
    go_ret
    exact ⟨rfl, hb0⟩
  · have bz : ((rs.length : Int) == 0) = false := by rw [beq_eq_false_iff_ne]; omega
    by_cases h3 : 3 < rs.length
    · have hx := HX.out
      rw [if_neg h0, if_pos (.inl h3)] at hx
      subst hx
      clear HX C1 C2 C3 C4 HB h0
      go_enter Tryd.func11, Tryd.ntmps11
      go_wp2
      go_ret
      exact ⟨rfl, hb0⟩
    · by_cases hm : 1 < rs.length ∧ ga ≠ 0
      · have hx := HX.out
        rw [if_neg h0, if_pos (.inr hm)] at hx
        subst hx
        obtain ⟨h1, h2⟩ := hm
        have bg : (ga != 0) = true := by simpa using h2
        clear HX C1 C2 C3 C4 HB h0 h2
        go_enter Tryd.func11, Tryd.ntmps11
        go_wp2
        go_ret
        exact ⟨rfl, hb0⟩
      · have hx := HX.out
        rw [if_neg h0, if_neg (by rintro (h | h); exact h3 h; exact hm h)] at hx
        have HX2 := hid hx
        have bg : (decide (1 < (rs.length : Int)) && (ga != 0)) = false := by
          rw [Bool.and_eq_false_iff]
          by_cases h : 1 < rs.length
          · right; simpa using fun e => hm ⟨h, e⟩
          · left; exact decide_eq_false (by omega)
        have hway : ¬ 1 < rs.length ∨ (1 < rs.length ∧ (ga != 0) = false) := by
          by_cases h : 1 < rs.length
          · right; exact ⟨h, by simpa using fun e => hm ⟨h, e⟩⟩
          · left; exact h
        clear hx HX hm h0 bg
        rcases hway with h1 | ⟨h1, bg⟩
        all_goals
          go_enter Tryd.func11, Tryd.ntmps11
          go_wp2_with fail
          refine (C1 _ (HQ.out.head.below hb0)).out.mono ?_
          rintro e w1 ⟨rfl, rfl⟩
          clear C1
          by_cases hy1 : y1 = 0
          · have by1 : (y1 != 0) = false := by simpa using hy1
            have hx := HX2.out
            rw [if_neg (by simpa using hy1)] at hx
            have h6 := HZ6.out hy1
            have hne := HZN.out hy1
            have HN := hid hne
            have HX3 := hid hx
            clear HX2 hx HZ6 HZN hne
            subst hy1
            go_wp2_with fail
            refine (C2 _).out.mono ?_
            rintro e w2 ⟨rfl, b2⟩
            have HB2 := hid (HB.out.trans (b2.mono (by simp)))
            clear C2 b2 HB
            obtain ⟨q0, q1, q2, q3, q4, qlt, hbel⟩ := qry_cells HB2.out
            by_cases hy2 : y2 = 0
            · have by2 : (y2 != 0) = false := by simpa using hy2
              have hx := HX3.out
              rw [if_neg (by simpa using hy2)] at hx
              have HX4 := hid hx
              clear HX3 hx
              subst hy2
              go_wp2_with fail
              refine (C3 _ (HQ.out.below hbel) h6 HN.out).out.mono ?_
              rintro e w3 ⟨rfl, b3⟩
              have HB3 := hid (HB2.out.trans (b3.mono (by omega)))
              clear C3 b3 HB2 q0 q1 q2 q3 q4 qlt hbel
              obtain ⟨q0, q1, q2, q3, q4, qlt, hbel⟩ := qry_cells HB3.out
              by_cases hy3 : y3 = 0
              · have by3 : (y3 != 0) = false := by simpa using hy3
                have hx := HX4.out
                rw [if_neg (by simpa using hy3)] at hx
                subst hx hy3
                clear HX4
                go_wp2_with fail
                refine (C4 _ (HQ.out.below hbel)).out.mono ?_
                rintro e w4 ⟨rfl, b4⟩
                have hb4 := hbel.trans (b4.mono hbel.size)
                clear C4
                go_wp2
                go_ret
                exact ⟨rfl, hb4⟩
              · have by3 : (y3 != 0) = true := by simpa using hy3
                have hx := HX4.out
                rw [if_pos (by simpa using hy3)] at hx
                subst hx
                clear HX4 C4 hy3
                go_wp2
                go_ret
                exact ⟨rfl, hbel⟩
            · have by2 : (y2 != 0) = true := by simpa using hy2
              have hx := HX3.out
              rw [if_pos (by simpa using hy2)] at hx
              subst hx
              clear HX3 C3 C4 hy2
              go_wp2
              go_ret
              exact ⟨rfl, hbel⟩
          · have by1 : (y1 != 0) = true := by simpa using hy1
            have hx := HX2.out
            rw [if_pos (by simpa using hy1)] at hx
            subst hx
            clear HX2 C2 C3 C4 hy1
            go_wp2
            go_ret
            exact ⟨rfl, hb0⟩

/-- What holds of a query that Check accepts. -/
theorem check_parts {q : Qry} (h : checkQ q = 0) : q.rules ≠ [] ∧ q.rules.length ≤ 3 ∧ ¬ (1 < q.rules.length ∧ q.agg ≠ 0) ∧ headE q.head = 0 ∧ aggE q = 0 ∧ firstE (ruleE q) q.rules = 0 ∧ orderE q = 0 := by
  unfold checkQ at h
  by_cases h0 : q.rules = []
  · rw [if_pos h0] at h; exact absurd h (by decide)
  · rw [if_neg h0] at h
    by_cases h1 : 3 < q.rules.length ∨ (1 < q.rules.length ∧ q.agg ≠ 0)
    · rw [if_pos h1] at h; exact absurd h (by decide)
    · rw [if_neg h1] at h
      by_cases h2 : headE q.head = 0
      · rw [if_neg (by simpa using h2)] at h
        by_cases h3 : aggE q = 0
        · rw [if_neg (by simpa using h3)] at h
          by_cases h4 : firstE (ruleE q) q.rules = 0
          · rw [if_neg (by simpa using h4)] at h
            exact ⟨h0, by omega, fun e => h1 (.inr e), h2, h3, h4, h⟩
          · rw [if_pos h4] at h; exact absurd h h4
        · rw [if_pos h3] at h; exact absurd h h3
      · rw [if_pos h2] at h; exact absurd h h2
theorem rule_items_zero {q : Qry} {r : Rul} (h : ruleE q r = 0) : itemsE r = 0 := by
  by_cases h1 : itemsE r = 0
  · exact h1
  · rw [rule_items h1] at h; exact absurd h h1
theorem check_few {q : Qry} (h : checkQ q = 0) : (0 < q.rules.length ∧ q.rules.length ≤ 3) ∧ ∀ r ∈ q.rules, r.few := by
  obtain ⟨h0, h1, _, _, _, h4, _⟩ := check_parts h
  exact ⟨⟨List.length_pos_iff.2 h0, h1⟩, fun r hr => few_of_items (rule_items_zero (firstE_zero h4 r hr))⟩
theorem check_head {q : Qry} (h : checkQ q = 0) : q.head.length ≤ 6 := (headE_zero (check_parts h).2.2.2.1).1
end Go.Proofs.YtgeapgbebbapmaaDoor
