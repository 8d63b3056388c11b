/-
  PARTS of a claim, merged by segs.py: Ast12, Lw1.
-/
import Derived.Test.YtnbacdmlaedppaaGreatDoorQ12
import Derived.Test.YtnbacdmlaedppaaGreatDoorQ04
import Derived.Test.YtnbacdmlaedppaaGreatDoorQ15
namespace Go.Proofs.YtnbacdmlaedppaaGreatDoor

/-! ### Ast12 -/
section
open Go.RowKit

theorem headGo_zero : ∀ (l pre : List Str), headGo pre l = 0 → (∀ v ∈ l, nameB v = true ∧ v ∉ pre) ∧ l.Nodup
  | [], _, _ => by simp
  | v :: l, pre, h => by
    unfold headGo at h
    split at h
    · exact absurd h (by decide)
    · rename_i h1
      split at h
      · exact absurd h (by decide)
      · rename_i h2
        obtain ⟨h3, h4⟩ := headGo_zero l (pre ++ [v]) h
        refine ⟨fun u hu => ?_, ?_⟩
        · rcases List.mem_cons.1 hu with rfl | hu
          · exact ⟨by simpa using h1, h2⟩
          · exact ⟨(h3 u hu).1, fun e => (h3 u hu).2 (List.mem_append_left _ e)⟩
        · rw [List.nodup_cons]
          exact ⟨fun e => (h3 v e).2 (by simp), h4⟩
theorem headE_zero {l : List Str} (h : headE l = 0) : l.length ≤ 6 ∧ (∀ v ∈ l, nameB v = true) ∧ l.Nodup := by
  unfold headE at h
  split at h
  · exact absurd h (by decide)
  · obtain ⟨h1, h2⟩ := headGo_zero l [] h
    exact ⟨by omega, fun v hv => (h1 v hv).1, h2⟩
theorem need_ne {q : Qry} (h : headE q.head = 0) : ∀ v ∈ needL q, v ≠ [] := by
  intro v hv
  unfold needL at hv
  rcases List.mem_append.1 hv with h1 | h1
  · exact nameB_ne ((headE_zero h).2.1 v h1)
  · split at h1
    · cases h1
    · rename_i h2
      rw [List.mem_singleton.1 h1]; exact h2

set_option maxRecDepth 100000 in
set_option maxHeartbeats 4000000 in
theorem ast_check (q : Qry) (A R O : Option Addr) (ch cr co : Nat) (w : World) (hq : QryIn w q A R O ch cr co) (hwf : q.wf) {x : Int} (hx : checkQ q = x) :
    Calls Tryz.prog 13 #[qryV q A R O ch cr co] w fun e w' => e = .returned (.int .i64 x) ∧ Below w.heap.size w w' := by
  have HQ := hid hq
  have HW := hid hwf
  obtain ⟨y1, e1⟩ : ∃ y, headE q.head = y := ⟨_, rfl⟩
  obtain ⟨y2, e2⟩ : ∃ y, aggE q = y := ⟨_, rfl⟩
  obtain ⟨y3, e3⟩ : ∃ y, firstE (ruleE q) q.rules = y := ⟨_, rfl⟩
  obtain ⟨y4, e4⟩ : ∃ y, orderE q = y := ⟨_, rfl⟩
  have C1 := fun W h => hid (ast_checkHead A ch q.head W h hq.lh hq.mh e1)
  have C2 := fun W => hid (ast_checkAggregate q (.slice A q.head.length ch) (.slice R q.rules.length cr) (.slice O q.order.length co) W e2)
  have C3 := fun W h h6 hne => hid (ast_checkRules q A R O ch cr co W h HW.out h6 hne e3)
  have C4 := fun W h => hid (ast_checkOrder q A R O ch cr co W h HW.out e4)
  have hz6 := fun h : y1 = 0 => (headE_zero (e1.trans h)).1
  have hzn := fun h : y1 = 0 => need_ne (e1.trans h)
  have HZ6 := hid hz6
  have HZN := hid hzn
  unfold checkQ at hx
  rw [e1, e2, e3, e4] at hx
  have hr0 : q.rules = [] ↔ q.rules.length = 0 := List.length_eq_zero_iff.symm
  simp only [hr0] at hx
  obtain ⟨mh, mr, mo⟩ := (⟨hq.mh, hq.mr, hq.mo⟩ : _ ∧ _ ∧ _)
  obtain ⟨Y, hY, _, _⟩ := nm q.aggVar
  unfold qryV at C3 C4 ⊢
  rw [hY] at C2 ⊢
  simp only [hY] at C3 C4
  clear e1 e2 e3 e4 hz6 hzn hr0 hY hq hwf
  obtain ⟨hd, ga, av, rs, os⟩ := q
  simp only at *
  have HB : Hid (Below (w.heap.size + 1) (w.alloc (.cells #[.slice A hd.length ch, .int .i64 ga, .string Y, .slice R rs.length cr, .slice O os.length co] 27)) (w.alloc (.cells #[.slice A hd.length ch, .int .i64 ga, .string Y, .slice R rs.length cr, .slice O os.length co] 27))) := hid (Below.refl _ _)
  obtain ⟨_, _, _, _, _, _, hb0⟩ := qry_cells HB.out
  have HX := hid hx
  clear hx
  by_cases h0 : rs.length = 0
  · have hx := HX.out
    rw [if_pos h0] at hx
    subst hx
    have bz0 : ((rs.length : Int) == 0) = true := by rw [beq_iff_eq]; omega
    clear h0 HX C1 C2 C3 C4 HB
    go_enter Tryz.func13, Tryz.ntmps13
    go_wp2
    go_ret
    exact ⟨rfl, hb0⟩
  · have bz : ((rs.length : Int) == 0) = false := by rw [beq_eq_false_iff_ne]; omega
    by_cases h3 : 3 < rs.length
    · have hx := HX.out
      rw [if_neg h0, if_pos (.inl h3)] at hx
      subst hx
      clear HX C1 C2 C3 C4 HB h0
      go_enter Tryz.func13, Tryz.ntmps13
      go_wp2
      go_ret
      exact ⟨rfl, hb0⟩
    · by_cases hm : 1 < rs.length ∧ ga ≠ 0
      · have hx := HX.out
        rw [if_neg h0, if_pos (.inr hm)] at hx
        subst hx
        obtain ⟨h1, h2⟩ := hm
        have bg : (ga != 0) = true := by simpa using h2
        clear HX C1 C2 C3 C4 HB h0 h2
        go_enter Tryz.func13, Tryz.ntmps13
        go_wp2
        go_ret
        exact ⟨rfl, hb0⟩
      · have hx := HX.out
        rw [if_neg h0, if_neg (by rintro (h | h); exact h3 h; exact hm h)] at hx
        have HX2 := hid hx
        have bg : (decide (1 < (rs.length : Int)) && (ga != 0)) = false := by
          rw [Bool.and_eq_false_iff]
          by_cases h : 1 < rs.length
          · right; simpa using fun e => hm ⟨h, e⟩
          · left; exact decide_eq_false (by omega)
        have hway : ¬ 1 < rs.length ∨ (1 < rs.length ∧ (ga != 0) = false) := by
          by_cases h : 1 < rs.length
          · right; exact ⟨h, by simpa using fun e => hm ⟨h, e⟩⟩
          · left; exact h
        clear hx HX hm h0 bg
        rcases hway with h1 | ⟨h1, bg⟩
        all_goals
          go_enter Tryz.func13, Tryz.ntmps13
          go_wp2_with fail
          refine (C1 _ (HQ.out.head.below hb0)).out.mono ?_
          rintro e w1 ⟨rfl, rfl⟩
          clear C1
          by_cases hy1 : y1 = 0
          · have by1 : (y1 != 0) = false := by simpa using hy1
            have hx := HX2.out
            rw [if_neg (by simpa using hy1)] at hx
            have h6 := HZ6.out hy1
            have hne := HZN.out hy1
            have HN := hid hne
            have HX3 := hid hx
            clear HX2 hx HZ6 HZN hne
            subst hy1
            go_wp2_with fail
            refine (C2 _).out.mono ?_
            rintro e w2 ⟨rfl, b2⟩
            have HB2 := hid (HB.out.trans (b2.mono (by simp)))
            clear C2 b2 HB
            obtain ⟨q0, q1, q2, q3, q4, qlt, hbel⟩ := qry_cells HB2.out
            by_cases hy2 : y2 = 0
            · have by2 : (y2 != 0) = false := by simpa using hy2
              have hx := HX3.out
              rw [if_neg (by simpa using hy2)] at hx
              have HX4 := hid hx
              clear HX3 hx
              subst hy2
              go_wp2_with fail
              refine (C3 _ (HQ.out.below hbel) h6 HN.out).out.mono ?_
              rintro e w3 ⟨rfl, b3⟩
              have HB3 := hid (HB2.out.trans (b3.mono (by omega)))
              clear C3 b3 HB2 q0 q1 q2 q3 q4 qlt hbel
              obtain ⟨q0, q1, q2, q3, q4, qlt, hbel⟩ := qry_cells HB3.out
              by_cases hy3 : y3 = 0
              · have by3 : (y3 != 0) = false := by simpa using hy3
                have hx := HX4.out
                rw [if_neg (by simpa using hy3)] at hx
                subst hx hy3
                clear HX4
                go_wp2_with fail
                refine (C4 _ (HQ.out.below hbel)).out.mono ?_
                rintro e w4 ⟨rfl, b4⟩
                have hb4 := hbel.trans (b4.mono hbel.size)
                clear C4
                go_wp2
                go_ret
                exact ⟨rfl, hb4⟩
              · have by3 : (y3 != 0) = true := by simpa using hy3
                have hx := HX4.out
                rw [if_pos (by simpa using hy3)] at hx
                subst hx
                clear HX4 C4 hy3
                go_wp2
                go_ret
                exact ⟨rfl, hbel⟩
            · have by2 : (y2 != 0) = true := by simpa using hy2
              have hx := HX3.out
              rw [if_pos (by simpa using hy2)] at hx
              subst hx
              clear HX3 C3 C4 hy2
              go_wp2
              go_ret
              exact ⟨rfl, hbel⟩
          · have by1 : (y1 != 0) = true := by simpa using hy1
            have hx := HX2.out
            rw [if_pos (by simpa using hy1)] at hx
            subst hx
            clear HX2 C2 C3 C4 hy1
            go_wp2
            go_ret
            exact ⟨rfl, hb0⟩

/-- What holds of a query that Check accepts. -/
theorem check_parts {q : Qry} (h : checkQ q = 0) : q.rules ≠ [] ∧ q.rules.length ≤ 3 ∧ ¬ (1 < q.rules.length ∧ q.agg ≠ 0) ∧ headE q.head = 0 ∧ aggE q = 0 ∧ firstE (ruleE q) q.rules = 0 ∧ orderE q = 0 := by
  unfold checkQ at h
  by_cases h0 : q.rules = []
  · rw [if_pos h0] at h; exact absurd h (by decide)
  · rw [if_neg h0] at h
    by_cases h1 : 3 < q.rules.length ∨ (1 < q.rules.length ∧ q.agg ≠ 0)
    · rw [if_pos h1] at h; exact absurd h (by decide)
    · rw [if_neg h1] at h
      by_cases h2 : headE q.head = 0
      · rw [if_neg (by simpa using h2)] at h
        by_cases h3 : aggE q = 0
        · rw [if_neg (by simpa using h3)] at h
          by_cases h4 : firstE (ruleE q) q.rules = 0
          · rw [if_neg (by simpa using h4)] at h
            exact ⟨h0, by omega, fun e => h1 (.inr e), h2, h3, h4, h⟩
          · rw [if_pos h4] at h; exact absurd h h4
        · rw [if_pos h3] at h; exact absurd h h3
      · rw [if_pos h2] at h; exact absurd h h2
theorem rule_items_zero {q : Qry} {r : Rul} (h : ruleE q r = 0) : itemsE r = 0 := by
  by_cases h1 : itemsE r = 0
  · exact h1
  · rw [rule_items h1] at h; exact absurd h h1
theorem check_few {q : Qry} (h : checkQ q = 0) : (0 < q.rules.length ∧ q.rules.length ≤ 3) ∧ ∀ r ∈ q.rules, r.few := by
  obtain ⟨h0, h1, _, _, _, h4, _⟩ := check_parts h
  exact ⟨⟨List.length_pos_iff.2 h0, h1⟩, fun r hr => few_of_items (rule_items_zero (firstE_zero h4 r hr))⟩
theorem check_head {q : Qry} (h : checkQ q = 0) : q.head.length ≤ 6 := (headE_zero (check_parts h).2.2.2.1).1
end

/-! ### Lw1 -/
section
open Go.RowKit

theorem letB_cases (c : UInt8) {x : Bool} (hx : letB c = x) : (x = false ∧ c.toNat < 65) ∨ (x = true ∧ 65 ≤ c.toNat ∧ c.toNat ≤ 90) ∨ (x = false ∧ 90 < c.toNat ∧ c.toNat < 97) ∨ (x = true ∧ 97 ≤ c.toNat ∧ c.toNat ≤ 122) ∨ (x = false ∧ 122 < c.toNat) := by
  subst hx
  unfold letB
  by_cases h1 : c.toNat < 65
  · left; simp; omega
  · by_cases h2 : c.toNat ≤ 90
    · right; left; simp; omega
    · by_cases h3 : c.toNat < 97
      · right; right; left; simp; omega
      · by_cases h4 : c.toNat ≤ 122
        · right; right; right; left; simp; omega
        · right; right; right; right; simp; omega
theorem digB_cases (c : UInt8) {x : Bool} (hx : digB c = x) : (x = false ∧ c.toNat < 48) ∨ (x = true ∧ 48 ≤ c.toNat ∧ c.toNat ≤ 57) ∨ (x = false ∧ 57 < c.toNat) := by
  subst hx
  unfold digB
  by_cases h1 : c.toNat < 48
  · left; simp; omega
  · by_cases h2 : c.toNat ≤ 57
    · right; left; simp; omega
    · right; right; simp; omega

set_option maxHeartbeats 1000000 in
theorem lex_letter (c : UInt8) (w : World) {x : Bool} (hx : letB c = x) :
    Calls Tryz.prog 67 #[.int .u8 c.toNat] w fun e w' => e = .returned (.bool x) ∧ w = w' := by
  rcases letB_cases c hx with ⟨rfl, h1⟩ | ⟨rfl, h1, h2⟩ | ⟨rfl, h1, h2⟩ | ⟨rfl, h1, h2⟩ | ⟨rfl, h1⟩
  all_goals
    clear hx
    go_enter Tryz.func67, Tryz.ntmps67
    go_wp2
    go_ret
    exact ⟨ret_b (by first | rfl | (simp; omega)), rfl⟩
set_option maxHeartbeats 1000000 in
theorem lex_digit (c : UInt8) (w : World) {x : Bool} (hx : digB c = x) :
    Calls Tryz.prog 69 #[.int .u8 c.toNat] w fun e w' => e = .returned (.bool x) ∧ w = w' := by
  rcases digB_cases c hx with ⟨rfl, h1⟩ | ⟨rfl, h1, h2⟩ | ⟨rfl, h1⟩
  all_goals
    clear hx
    go_enter Tryz.func69, Tryz.ntmps69
    go_wp2
    go_ret
    exact ⟨ret_b (by first | rfl | (simp; omega)), rfl⟩

set_option maxHeartbeats 1000000 in
theorem ref_letter (c : UInt8) (w : World) {x : Bool} (hx : letB c = x) :
    Calls Tryz.prog 105 #[.int .u8 c.toNat] w fun e w' => e = .returned (.bool x) ∧ w = w' := by
  rcases letB_cases c hx with ⟨rfl, h1⟩ | ⟨rfl, h1, h2⟩ | ⟨rfl, h1, h2⟩ | ⟨rfl, h1, h2⟩ | ⟨rfl, h1⟩
  all_goals
    clear hx
    go_enter Tryz.func105, Tryz.ntmps105
    go_wp2
    go_ret
    exact ⟨ret_b (by first | rfl | (simp; omega)), rfl⟩
set_option maxHeartbeats 1000000 in
theorem ref_digit (c : UInt8) (w : World) {x : Bool} (hx : digB c = x) :
    Calls Tryz.prog 108 #[.int .u8 c.toNat] w fun e w' => e = .returned (.bool x) ∧ w = w' := by
  rcases digB_cases c hx with ⟨rfl, h1⟩ | ⟨rfl, h1, h2⟩ | ⟨rfl, h1⟩
  all_goals
    clear hx
    go_enter Tryz.func108, Tryz.ntmps108
    go_wp2
    go_ret
    exact ⟨ret_b (by first | rfl | (simp; omega)), rfl⟩

theorem wordLen_step {l : List UInt8} {k : Nat} (h : k < l.length) (hw : wrdB l[k] = true) : wordLen (l.drop k) = wordLen (l.drop (k + 1)) + 1 := by
  rw [List.drop_eq_getElem_cons h]; unfold wordLen; rw [List.takeWhile_cons, if_pos hw]; rfl
theorem wordLen_halt {l : List UInt8} {k : Nat} (h : k < l.length) (hw : wrdB l[k] = false) : wordLen (l.drop k) = 0 := by
  rw [List.drop_eq_getElem_cons h]; unfold wordLen; rw [List.takeWhile_cons, if_neg (by rw [hw]; decide)]; rfl
/-- The ways in which a byte is one of a word's, or not. -/
theorem wrd_ways (c : UInt8) : (letB c = true ∧ wrdB c = true) ∨ (letB c = false ∧ digB c = true ∧ wrdB c = true) ∨ (letB c = false ∧ digB c = false ∧ c.toNat = 95 ∧ wrdB c = true) ∨ (letB c = false ∧ digB c = false ∧ c.toNat ≠ 95 ∧ wrdB c = false) := by
  unfold wrdB
  cases h1 : letB c
  · cases h2 : digB c
    · by_cases h3 : c.toNat = 95
      · have : c = 95 := UInt8.toNat.inj h3
        subst this
        right; right; left; simp
      · have : (c == 95) = false := by simpa using fun e => h3 (congrArg UInt8.toNat e)
        right; right; right; simp [this, h3]
    · right; left; simp
  · left; simp

/-- Does a word's byte stand at k? Calls of letter and digit, walked. -/
theorem strGo_esc1 {l : List UInt8} {k : Nat} (h : k < l.length) : strGo true (l.drop k) = (strGo false (l.drop (k + 1))).map (· + 1) := by
  rw [List.drop_eq_getElem_cons h, strGo]
theorem strGo_92 {l : List UInt8} {k : Nat} (h : k < l.length) (hc : l[k] = 92) : strGo false (l.drop k) = (strGo true (l.drop (k + 1))).map (· + 1) := by
  rw [List.drop_eq_getElem_cons h, strGo, if_pos hc]
theorem strGo_34 {l : List UInt8} {k : Nat} (h : k < l.length) (hc : l[k] = 34) : strGo false (l.drop k) = some 1 := by
  rw [List.drop_eq_getElem_cons h, strGo, if_neg (by rw [hc]; decide), if_pos hc]
theorem strGo_else {l : List UInt8} {k : Nat} (h : k < l.length) (h1 : l[k] ≠ 92) (h2 : l[k] ≠ 34) : strGo false (l.drop k) = (strGo false (l.drop (k + 1))).map (· + 1) := by
  rw [List.drop_eq_getElem_cons h, strGo, if_neg h1, if_neg h2]
theorem strGo_end (e : Bool) : strGo e [] = none := by cases e <;> rfl
theorem map_map_add (o : Option Nat) (k : Nat) : (o.map (· + 1)).map (· + k) = o.map (· + (k + 1)) := by
  cases o with
  | none => rfl
  | some n => simp only [Option.map_some]; congr 1; omega

set_option maxRecDepth 100000 in
set_option maxHeartbeats 1000000 in
theorem lex_wordLength (s : ByteArray) (w : World) (hs : s.size ≤ 100000) {x : Nat} (hx : wordLen s.data.toList = x) :
    Calls Tryz.prog 71 #[.string s] w fun e w' => e = .returned (.int .i64 x) ∧ w = w' := by
  have HX : Hid (wordLen (s.data.toList.drop 0) + 0 = x) := hid hx
  clear hx
  go_enter Tryz.func71, Tryz.ntmps71
  go_wp2
  go_loop [6] (fun i => ∃ k : Nat, k ≤ s.size ∧ i = .int .i64 k ∧ Hid (wordLen (s.data.toList.drop k) + k = x)) (fun i => s.size - (intOf i).toNat)
  case atStart => exact ⟨0, by omega, rfl, HX⟩
  case round =>
    obtain ⟨k, hk, rfl, HK⟩ := hrel
    clear HX
    by_cases hlt : k < s.size
    · have hlt' : k < s.data.toList.length := by simpa using hlt
      have hb := s[k].toNat_lt
      rcases wrd_ways s[k] with ⟨a1, a4⟩ | ⟨a1, a2, a4⟩ | ⟨a1, a2, a3, a4⟩ | ⟨a1, a2, a3, a4⟩
      · have hst := wordLen_step hlt' a4
        rw [hst] at HK
        have H1 := fun W => hid (lex_letter s[k] W a1)
        have HK2 := hid ((Nat.add_right_comm _ _ _).trans HK.out)
        clear hst HK a1 a4
        go_wp2_with fail
        refine (H1 _).out.mono ?_
        rintro e w1 ⟨rfl, rfl⟩
        clear H1
        go_wp2
        go_round
        case rel => exact ⟨k + 1, by omega, by go_num, HK2⟩
        case measure => simp [intOf]; omega
      · have hst := wordLen_step hlt' a4
        rw [hst] at HK
        have H1 := fun W => hid (lex_letter s[k] W a1)
        have H2 := fun W => hid (lex_digit s[k] W a2)
        have HK2 := hid ((Nat.add_right_comm _ _ _).trans HK.out)
        clear hst HK a1 a2 a4
        go_wp2_with fail
        refine (H1 _).out.mono ?_
        rintro e w1 ⟨rfl, rfl⟩
        clear H1
        go_wp2_with fail
        refine (H2 _).out.mono ?_
        rintro e w1 ⟨rfl, rfl⟩
        clear H2
        go_wp2
        go_round
        case rel => exact ⟨k + 1, by omega, by go_num, HK2⟩
        case measure => simp [intOf]; omega
      · have hst := wordLen_step hlt' a4
        rw [hst] at HK
        have H1 := fun W => hid (lex_letter s[k] W a1)
        have H2 := fun W => hid (lex_digit s[k] W a2)
        have HK2 := hid ((Nat.add_right_comm _ _ _).trans HK.out)
        have b95 : ((s[k].toNat : Int) != 95) = false := by rw [bne_eq_false_iff_eq]; omega
        clear hst HK a1 a2 a3 a4
        go_wp2_with fail
        refine (H1 _).out.mono ?_
        rintro e w1 ⟨rfl, rfl⟩
        clear H1
        go_wp2_with fail
        refine (H2 _).out.mono ?_
        rintro e w1 ⟨rfl, rfl⟩
        clear H2
        go_wp2
        go_round
        case rel => exact ⟨k + 1, by omega, by go_num, HK2⟩
        case measure => simp [intOf]; omega
      · rw [wordLen_halt hlt' a4, Nat.zero_add] at HK
        obtain rfl := HK.out
        have H1 := fun W => hid (lex_letter s[k] W a1)
        have H2 := fun W => hid (lex_digit s[k] W a2)
        have b95 : ((s[k].toNat : Int) != 95) = true := by rw [bne_iff_ne]; omega
        clear HK a1 a2 a4
        go_wp2_with fail
        refine (H1 _).out.mono ?_
        rintro e w1 ⟨rfl, rfl⟩
        clear H1
        go_wp2_with fail
        refine (H2 _).out.mono ?_
        rintro e w1 ⟨rfl, rfl⟩
        clear H2
        go_wp2
        go_ret
        exact ⟨rfl, rfl⟩
    · have e : s.data.toList.drop k = [] := List.drop_eq_nil_of_le (by simp; omega)
      rw [e] at HK
      have e2 : Hid (x = s.size) := hid (by rw [← HK.out]; simp [wordLen]; omega)
      clear HK e
      go_wp2
      go_ret
      exact ⟨ret_i (by rw [e2.out]), rfl⟩

/-- A call that returns a length and whether there is one. -/
def lenB (o : Option Nat) : Nat × Bool := match o with
  | some n => (n, true)
  | none => (0, false)

set_option maxRecDepth 100000 in
set_option maxHeartbeats 1000000 in
theorem lex_stringLength (s : ByteArray) (w : World) (h0 : 0 < s.size) (hs : s.size ≤ 100000) {n : Nat} {b : Bool} (hx : lenB (strLen s.data.toList) = (n, b)) :
    Calls Tryz.prog 72 #[.string s] w fun e w' => e = .returned (.tuple #[.int .i64 n, .bool b]) ∧ w = w' := by
  have HX : Hid (lenB ((strGo false (s.data.toList.drop 1)).map (· + 1)) = (n, b)) := hid hx
  clear hx
  go_enter Tryz.func72, Tryz.ntmps72
  go_wp2
  go_loop [4, 8] (fun q i => ∃ (k : Nat) (esc : Bool), k ≤ s.size ∧ i = .int .i64 k ∧ q = .bool esc ∧ Hid ((k = 0 → esc = false) ∧ (0 < k → lenB ((strGo esc (s.data.toList.drop k)).map (· + k)) = (n, b)))) (fun _ i => s.size - (intOf i).toNat)
  case atStart => exact ⟨0, false, by omega, rfl, rfl, hid ⟨fun _ => rfl, fun h => absurd h (by omega)⟩⟩
  case round =>
    obtain ⟨k, esc, hk, rfl, rfl, HK⟩ := hrel
    by_cases hk0 : k = 0
    · have he := HK.out.1 hk0
      subst he
      have hk1 : k ≤ 0 := by omega
      have bk : ((k : Int) == 0) = true := by rw [hk0]; rfl
      have HN : Hid ((k + 1 = 0 → false = false) ∧ (0 < k + 1 → lenB ((strGo false (s.data.toList.drop (k + 1))).map (· + (k + 1))) = (n, b))) := hid ⟨fun _ => rfl, fun _ => by rw [hk0]; exact HX.out⟩
      have hlt : k < s.size := by omega
      clear HK HX hk0
      go_wp2
      go_round
      case rel => exact ⟨k + 1, false, by omega, by go_num, rfl, HN⟩
      case measure => simp [intOf]; omega
    · have hkp : 0 < k := by omega
      have hx := HK.out.2 hkp
      have bk : ((k : Int) == 0) = false := by simp; omega
      clear HK HX
      by_cases hlt : k < s.size
      · have hlt' : k < s.data.toList.length := by simpa using hlt
        cases esc
        · by_cases h92 : s[k].toNat = 92
          · rw [strGo_92 hlt' (by have e : s[k] = 92 := UInt8.toNat.inj h92; exact e), map_map_add] at hx
            have HN : Hid ((k + 1 = 0 → true = false) ∧ (0 < k + 1 → lenB ((strGo true (s.data.toList.drop (k + 1))).map (· + (k + 1))) = (n, b))) := hid ⟨fun h => by omega, fun _ => hx⟩
            clear hx hk0
            go_wp2
            go_round
            case rel => exact ⟨k + 1, true, by omega, by go_num, rfl, HN⟩
            case measure => simp [intOf]; omega
          · have b92 : ((s[k].toNat : Int) == 92) = false := by simp; omega
            by_cases h34 : s[k].toNat = 34
            · rw [strGo_34 hlt' (by have e : s[k] = 34 := UInt8.toNat.inj h34; exact e)] at hx
              have hx' : (1 + k, true) = (n, b) := hx
              injection hx' with e1 e2
              subst e2
              have E1 : Hid ((n : Int) = k + 1) := hid (by rw [← e1]; omega)
              clear e1 hk0 h92
              go_wp2
              go_ret2
              rw [E1.out]
              exact ⟨rfl, rfl⟩
            · have b34 : ((s[k].toNat : Int) == 34) = false := by simp; omega
              rw [strGo_else hlt' (fun e => h92 (congrArg UInt8.toNat e)) (fun e => h34 (congrArg UInt8.toNat e)), map_map_add] at hx
              have HN : Hid ((k + 1 = 0 → false = false) ∧ (0 < k + 1 → lenB ((strGo false (s.data.toList.drop (k + 1))).map (· + (k + 1))) = (n, b))) := hid ⟨fun _ => rfl, fun _ => hx⟩
              clear hx hk0 h92 h34
              go_wp2
              go_round
              case rel => exact ⟨k + 1, false, by omega, by go_num, rfl, HN⟩
              case measure => simp [intOf]; omega
        · rw [strGo_esc1 hlt', map_map_add] at hx
          have HN : Hid ((k + 1 = 0 → false = false) ∧ (0 < k + 1 → lenB ((strGo false (s.data.toList.drop (k + 1))).map (· + (k + 1))) = (n, b))) := hid ⟨fun _ => rfl, fun _ => hx⟩
          clear hx hk0
          go_wp2
          go_round
          case rel => exact ⟨k + 1, false, by omega, by go_num, rfl, HN⟩
          case measure => simp [intOf]; omega
      · have e : s.data.toList.drop k = [] := List.drop_eq_nil_of_le (by simp; omega)
        rw [e, strGo_end] at hx
        injection hx with e1 e2
        subst e1 e2
        clear hk0 e
        go_wp2
        go_ret2
        exact ⟨rfl, rfl⟩

/-- How many bytes of white space stand at the beginning. -/
def skipN (l : List UInt8) : Nat := (l.takeWhile whtB).length
theorem skip_step {l : List UInt8} {k : Nat} (h : k < l.length) (hw : whtB l[k] = true) : skipN (l.drop k) = skipN (l.drop (k + 1)) + 1 := by
  rw [List.drop_eq_getElem_cons h]; unfold skipN; rw [List.takeWhile_cons, if_pos hw]; rfl
theorem skip_halt {l : List UInt8} {k : Nat} (h : k < l.length) (hw : whtB l[k] = false) : skipN (l.drop k) = 0 := by
  rw [List.drop_eq_getElem_cons h]; unfold skipN; rw [List.takeWhile_cons, if_neg (by rw [hw]; decide)]; rfl
theorem wht_ways (c : UInt8) : (whtB c = true ∧ (c.toNat = 32 ∨ c.toNat = 9 ∨ c.toNat = 10 ∨ c.toNat = 13)) ∨ (whtB c = false ∧ c.toNat ≠ 32 ∧ c.toNat ≠ 9 ∧ c.toNat ≠ 10 ∧ c.toNat ≠ 13) := by
  have key : ∀ i : Fin 256, (whtB (UInt8.ofNat i.val) = true ∧ (i.val = 32 ∨ i.val = 9 ∨ i.val = 10 ∨ i.val = 13)) ∨ (whtB (UInt8.ofNat i.val) = false ∧ i.val ≠ 32 ∧ i.val ≠ 9 ∧ i.val ≠ 10 ∧ i.val ≠ 13) := by decide +kernel
  have := key ⟨c.toNat, c.toNat_lt⟩
  simp only [UInt8.ofNat_toNat] at this
  exact this

set_option maxRecDepth 100000 in
set_option maxHeartbeats 1000000 in
theorem lex_skip (s : ByteArray) (a : Nat) (w : World) (ha : a ≤ s.size) (hs : s.size ≤ 100000) {x : Nat} (hx : a + skipN (s.data.toList.drop a) = x) :
    Calls Tryz.prog 37 #[.string s, .int .i64 a] w fun e w' => e = .returned (.int .i64 x) ∧ w = w' := by
  have HX : Hid (a + skipN (s.data.toList.drop a) = x) := hid hx
  clear hx
  go_enter Tryz.func37, Tryz.ntmps37
  go_wp2
  go_loop [1] (fun i => ∃ k : Nat, k ≤ s.size ∧ i = .int .i64 k ∧ Hid (k + skipN (s.data.toList.drop k) = x)) (fun i => s.size - (intOf i).toNat)
  case atStart => exact ⟨a, by omega, rfl, HX⟩
  case round =>
    obtain ⟨k, hk, rfl, HK⟩ := hrel
    clear HX
    by_cases hlt : k < s.size
    · have hlt' : k < s.data.toList.length := by simpa using hlt
      rcases wht_ways s[k] with ⟨a1, a2⟩ | ⟨a1, a2, a3, a4, a5⟩
      · rw [skip_step hlt' a1] at HK
        have HK2 : Hid (k + 1 + skipN (s.data.toList.drop (k + 1)) = x) := hid (by rw [← HK.out]; omega)
        clear HK a1
        have a0 : (s[k].toNat = 32) ∨ (((s[k].toNat : Int) == 32) = false ∧ s[k].toNat = 9) ∨ (((s[k].toNat : Int) == 32) = false ∧ ((s[k].toNat : Int) == 9) = false ∧ s[k].toNat = 10) ∨ (((s[k].toNat : Int) == 32) = false ∧ ((s[k].toNat : Int) == 9) = false ∧ ((s[k].toNat : Int) == 10) = false ∧ s[k].toNat = 13) := by
          rcases a2 with h | h | h | h <;> simp [h]
        clear a2
        rcases a0 with q1 | ⟨q1, q2⟩ | ⟨q1, q2, q3⟩ | ⟨q1, q2, q3, q4⟩
        all_goals
          go_wp2
          go_round
          case rel => exact ⟨k + 1, by omega, by go_num, HK2⟩
          case measure => simp [intOf]; omega
      · rw [skip_halt hlt' a1, Nat.add_zero] at HK
        obtain rfl := HK.out
        have q1 : ((s[k].toNat : Int) == 32) = false := by simp; omega
        have q2 : ((s[k].toNat : Int) == 9) = false := by simp; omega
        have q3 : ((s[k].toNat : Int) == 10) = false := by simp; omega
        have q4 : ((s[k].toNat : Int) == 13) = false := by simp; omega
        clear HK a1 a2 a3 a4 a5
        go_wp2
        go_ret
        exact ⟨rfl, rfl⟩
    · have e : s.data.toList.drop k = [] := List.drop_eq_nil_of_le (by simp; omega)
      rw [e] at HK
      have e2 : Hid (x = k) := hid (by rw [← HK.out]; simp [skipN])
      clear HK e
      go_wp2
      go_ret
      exact ⟨ret_i (by rw [e2.out]), rfl⟩
end
end Go.Proofs.YtnbacdmlaedppaaGreatDoor
