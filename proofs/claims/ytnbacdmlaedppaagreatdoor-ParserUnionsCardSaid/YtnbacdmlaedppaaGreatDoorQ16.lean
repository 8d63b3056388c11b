/-
  PARTS of a claim, merged by segs.py: Rt3.
-/
import Derived.Test.YtnbacdmlaedppaaGreatDoorQ15
namespace Go.Proofs.YtnbacdmlaedppaaGreatDoor

/-! ### Rt3 -/
section
open Go.RowKit

theorem sz_ne {n : Nat} (h : 0 < n) : ((n : Int) == 0) = false := by simp; omega
theorem list_ne {s : ByteArray} (h : 0 < s.size) : s.data.toList ≠ [] := by
  intro e
  have h1 : s.data.toList.length = s.size := by simp
  rw [e] at h1
  simp at h1; omega

theorem run_step {lim n : Nat} {d : List UInt8} {c : UInt8} {bg : Bool} (h : Run lim d n bg) (hc : c.toNat - 48 ≤ lim) : ((lim - (c.toNat - 48)) / 10 < n → ∀ m, Run lim (d ++ [c]) m true) ∧ (¬ (lim - (c.toNat - 48)) / 10 < n → (bg = true → ∀ m, Run lim (d ++ [c]) m true) ∧ (bg = false → Run lim (d ++ [c]) (n * 10 + (c.toNat - 48)) false)) := by
  refine ⟨fun ho m => ?_, fun ho => ⟨fun hb m => ?_, fun hb => ?_⟩⟩
  · cases bg
    · exact run_over h ho m hc
    · exact run_big h m
  · subst hb; exact run_big h m
  · subst hb; exact run_digit h ho hc

theorem run_to {lim m n : Nat} {d : List UInt8} {b : Bool} (h : Run lim d n b) (e : m = n) : Run lim d m b := by rw [e]; exact h

theorem pInt2_form (l d : List UInt8) (ng : Bool) (T : Nat) (hd : d = magL l) (hn : negL l = ng) (hT : topL l = T) : pInt2 l = if digs (d.drop 0) = false then (V0, 15) else if T < numVal d then (V0, 3) else (intV1 (if ng = true then - (numVal d : Int) else numVal d), 0) := by
  subst hd hn hT; rfl
theorem u64_in (x : Int) : 0 ≤ IntKind.u64.wrap x ∧ IntKind.u64.wrap x ≤ 18446744073709551615 := by
  simp [IntKind.wrap, IntKind.signed, IntKind.bits]; omega
theorem u64_id (x : Int) (h0 : 0 ≤ x) (h1 : x ≤ 18446744073709551615) : IntKind.u64.wrap x = x := by
  simp [IntKind.wrap, IntKind.signed, IntKind.bits]; omega
theorem take_snoc' (D : ByteArray) (k : Nat) (h : k < D.size) : D.data.toList.take (k + 1) = D.data.toList.take k ++ [D[k]] := by
  rw [List.take_succ_eq_append_getElem (by simpa using h)]; rfl
theorem first_of {s : ByteArray} (h : 0 < s.size) : s.data.toList.getD 0 0 = s[0] := getD_of h
theorem neg_yes {s : ByteArray} (h : 0 < s.size) (h' : s[0].toNat = 45) : negL s.data.toList = true ∧ magL s.data.toList = s.data.toList.drop 1 ∧ topL s.data.toList = 9223372036854775808 := by
  have e : negL s.data.toList = true := by unfold negL; rw [first_of h]; have : s[0] = 45 := UInt8.toNat.inj h'; rw [this]; rfl
  unfold magL topL; rw [e]; exact ⟨rfl, rfl, rfl⟩
theorem neg_no {s : ByteArray} (h : 0 < s.size) (h' : s[0].toNat ≠ 45) : negL s.data.toList = false ∧ magL s.data.toList = s.data.toList ∧ topL s.data.toList = 9223372036854775807 := by
  have e : negL s.data.toList = false := by unfold negL; rw [first_of h]; simpa using fun e => h' (congrArg UInt8.toNat e)
  unfold magL topL; rw [e]; exact ⟨rfl, rfl, rfl⟩
theorem back_neg (N : Int) (h0 : 0 ≤ N) (h1 : N ≤ 9223372036854775808) : wrap64 (IntKind.u64.wrap (-N)) = -N := by
  simp [wrap64, IntKind.wrap, IntKind.signed, IntKind.bits]; omega
theorem back_pos (N : Int) (h0 : 0 ≤ N) (h1 : N ≤ 9223372036854775807) : wrap64 N = N := by
  simp [wrap64]; omega

theorem infoRef : (Tryz.prog.info? 79).map (·.size) = some 3 := by kernel_rfl

set_option maxRecDepth 100000 in
set_option maxHeartbeats 2000000 in
theorem ref_integer_neg (s : ByteArray) (w : World) (h0 : 0 < s.size) (hs : s.size ≤ 100000) (h45 : s[0].toNat = 45) {x : V × Int} (hx : pInt s.data.toList = x) :
    Calls Tryz.prog 116 #[.string s] w (RetV w x) := by
  have k0 := below_one w (.cells #[.int .i64 0, .int .i64 0, .string ⟨#[]⟩] 79)
  have hz := heap_alloc_new w (.cells #[.int .i64 0, .int .i64 0, .string ⟨#[]⟩] 79)
  obtain ⟨e1, e2, e3⟩ := neg_yes h0 h45
  obtain ⟨D, hD⟩ : ∃ D : ByteArray, s.extract 1 s.size = D := ⟨_, rfl⟩
  have hDl : D.data.toList = magL s.data.toList := by rw [e2, ← hD, drop_extract]
  have hsd : D.size + 1 = s.size := by rw [← hD]; simp; omega
  clear e2
  by_cases h1 : D.size = 0
  · have hm : magL s.data.toList = [] := by rw [← hDl]; exact List.eq_nil_of_length_eq_zero (by simpa using h1)
    rw [pInt_1 (.inl hm)] at hx
    subst hx
    clear hDl hm e1 e3
    have h2 : s.size = 1 := by omega
    go_enter Tryz.func116, Tryz.ntmps116
    go_wp2_with (refine wpList_store_res rfl rfl rfl rfl hz infoRef rfl rfl ?_; intro w3 hz3 hb3)
    refine bodyPost_ret (by simp [results, Tryz.results116, go_sem, cell_res hz3]; rfl) rfl ?_
    exact ⟨rfl, k0.trans hb3⟩
  · have hpos : 0 < D.size := by omega
    have hm : magL s.data.toList ≠ [] := by rw [← hDl]; exact list_ne hpos
    have hg0 : (magL s.data.toList).getD 0 0 = D[0] := by rw [← hDl]; exact getD_of hpos
    have bD := sz_ne hpos
    by_cases h48 : D[0].toNat = 48
    · rw [pInt_1 (.inr ⟨by rw [hg0]; exact UInt8.toNat.inj h48, .inr e1⟩)] at hx
      subst hx
      clear hDl hm e1 e3 hg0
      rcases Nat.lt_or_ge 1 D.size with hg | hg
      all_goals
        go_enter Tryz.func116, Tryz.ntmps116
        go_wp2_with (refine wpList_store_res rfl rfl rfl rfl hz infoRef rfl rfl ?_; intro w3 hz3 hb3)
        refine bodyPost_ret (by simp [results, Tryz.results116, go_sem, cell_res hz3]; rfl) rfl ?_
        exact ⟨rfl, k0.trans hb3⟩
    · have b48 : ((D[0].toNat : Int) == 48) = false := by simp; omega
      have hno : ¬ (magL s.data.toList = [] ∨ ((magL s.data.toList).getD 0 0 = 48 ∧ (1 < (magL s.data.toList).length ∨ negL s.data.toList = true))) := fun h => h.elim hm fun ⟨h, _⟩ => h48 (by rw [← hg0, h]; rfl)
      clear hm hg0 h48
      rw [pInt_2 hno, pInt2_form _ D.data.toList true 9223372036854775808 hDl e1 e3] at hx
      obtain ⟨R, hR⟩ : ∃ R, (if 9223372036854775808 < numVal D.data.toList then (V0, 3) else (intV1 (if true = true then - (numVal D.data.toList : Int) else numVal D.data.toList), (0 : Int))) = R := ⟨_, rfl⟩
      rw [hR] at hx
      have HX : Hid ((if digs (D.data.toList.drop 0) = false then (V0, 15) else R) = x) := hid hx
      have HRR := hid hR
      clear hx hR hno hDl e1 e3
      go_enter Tryz.func116, Tryz.ntmps116
      go_wp2
      go_loop [6, 7, 8] (fun n b i => ∃ (k : Nat) (N : Int) (bg : Bool), k ≤ D.size ∧ i = .int .i64 k ∧ n = .int .u64 N ∧ 0 ≤ N ∧ N ≤ 18446744073709551615 ∧ b = .bool bg ∧ Hid (Run 9223372036854775808 (D.data.toList.take k) N.toNat bg) ∧ Hid (digs (D.data.toList.drop k) = digs D.data.toList) ∧ Hid ((if digs (D.data.toList.drop k) = false then (V0, 15) else R) = x)) (fun _ _ i => D.size - (intOf i).toNat)
      case atStart => exact ⟨0, 0, false, by omega, rfl, rfl, by omega, by omega, rfl, hid (run_nil _), hid rfl, HX⟩
      case round =>
        obtain ⟨k, N, bg, hk, rfl, rfl, hN0, hN1, rfl, HR, HD, HK⟩ := hrel
        clear HX
        by_cases hlt : k < D.size
        · have hlt' : k < D.data.toList.length := by simpa using hlt
          by_cases hdg : isDig D[k]
          · rw [digs_step hlt' hdg] at HK HD
            obtain ⟨st1, st2⟩ := run_step (c := D[k]) HR.out (by unfold isDig at hdg; omega)
            rw [← take_snoc' D k hlt] at st1 st2
            unfold isDig at hdg
            obtain ⟨g1, g2⟩ := hdg
            have hb := D[k].toNat_lt
            clear HR
            by_cases hov : (9223372036854775808 - ((D[k].toNat : Int) - 48)) / 10 < N
            · have HS := hid (st1 (by omega))
              clear st1 st2
              go_wp2
              go_round
              case rel => exact ⟨k + 1, _, true, by omega, by go_num, rfl, (u64_in _).1, (u64_in _).2, rfl, hid (HS.out _), HD, HK⟩
              case measure => simp [intOf]; omega
            · obtain ⟨st3, st4⟩ := st2 (by omega)
              cases bg
              · have HS := hid (st4 rfl)
                have hle : N * 10 ≤ 9223372036854775808 := by omega
                clear st1 st2 st3 st4
                go_wp2
                go_round
                case rel => exact ⟨k + 1, 10 * N + ((D[k].toNat : Int) - 48), false, by omega, by go_num, rfl, by omega, by omega, rfl, hid (run_to HS.out (by omega)), HD, HK⟩
                case measure => simp [intOf]; omega
              · have HS := hid (st3 rfl)
                have hle : N * 10 ≤ 9223372036854775808 := by omega
                clear st1 st2 st3 st4
                go_wp2
                go_round
                case rel => exact ⟨k + 1, _, true, by omega, by go_num, rfl, by omega, by omega, rfl, hid (HS.out _), HD, HK⟩
                case measure => simp [intOf]; omega
          · rw [digs_stop hlt' hdg, if_pos rfl] at HK
            obtain rfl := HK.out
            unfold isDig at hdg
            have hq : D[k].toNat < 48 ∨ 57 < D[k].toNat := by omega
            clear HK hdg HR HD
            rcases hq with hq | hq
            all_goals
              go_wp2_with (refine wpList_store_res rfl rfl rfl rfl hz infoRef rfl rfl ?_; intro w3 hz3 hb3)
              refine bodyPost_ret (by simp [results, Tryz.results116, go_sem, cell_res hz3]; rfl) rfl ?_
              exact ⟨rfl, k0.trans hb3⟩
        · have e : D.data.toList.drop k = [] := List.drop_eq_nil_of_le (by simp; omega)
          have e2 : D.data.toList.take k = D.data.toList := List.take_of_length_le (by simp; omega)
          rw [e, if_neg (by simp [digs])] at HK
          rw [e2] at HR
          obtain rfl := HK.out
          clear HK HD e e2
          cases bg
          · obtain ⟨r1, r2⟩ := HR.out.1 rfl
            have HN : Hid (R = (intV1 (-N), 0)) := hid (by rw [← HRR.out, if_neg (Nat.not_lt.2 r2), ← r1]; simp only [if_true]; rw [Int.toNat_of_nonneg hN0])
            have hN2 : N ≤ 9223372036854775808 := by omega
            have hbk := back_neg N hN0 hN2
            clear HR r1 r2 HRR
            go_wp2_with (refine wpList_store_res rfl rfl rfl rfl hz infoRef rfl rfl ?_; intro w3 hz3 hb3)
            refine bodyPost_ret (by simp [results, Tryz.results116, go_sem, cell_res hz3]; rfl) rfl ?_
            exact ⟨by rw [HN.out]; rfl, k0.trans hb3⟩
          · have r2 := HR.out.2 rfl
            have HN : Hid (R = (V0, 3)) := hid (by rw [← HRR.out, if_pos r2])
            clear HR r2 HRR
            go_wp2_with (refine wpList_store_res rfl rfl rfl rfl hz infoRef rfl rfl ?_; intro w3 hz3 hb3)
            refine bodyPost_ret (by simp [results, Tryz.results116, go_sem, cell_res hz3]; rfl) rfl ?_
            exact ⟨by rw [HN.out]; rfl, k0.trans hb3⟩

set_option maxRecDepth 100000 in
set_option maxHeartbeats 2000000 in
theorem ref_integer_pos (s : ByteArray) (w : World) (h0 : 0 < s.size) (hs : s.size ≤ 100000) (h45 : s[0].toNat ≠ 45) {x : V × Int} (hx : pInt s.data.toList = x) :
    Calls Tryz.prog 116 #[.string s] w (RetV w x) := by
  have k0 := below_one w (.cells #[.int .i64 0, .int .i64 0, .string ⟨#[]⟩] 79)
  have hz := heap_alloc_new w (.cells #[.int .i64 0, .int .i64 0, .string ⟨#[]⟩] 79)
  obtain ⟨e1, e2, e3⟩ := neg_no h0 h45
  have b45 : ((s[0].toNat : Int) == 45) = false := by simp; omega
  have bS := sz_ne h0
  have hm : magL s.data.toList ≠ [] := by rw [e2]; exact list_ne h0
  have hg0 : (magL s.data.toList).getD 0 0 = s[0] := by rw [e2]; exact getD_of h0
  by_cases h48 : s[0].toNat = 48 ∧ 1 < s.size
  · rw [pInt_1 (.inr ⟨by rw [hg0]; exact UInt8.toNat.inj h48.1, .inl (by rw [e2]; simpa using h48.2)⟩)] at hx
    subst hx
    obtain ⟨h48, h49⟩ := h48
    clear hm e1 e2 e3 hg0 h45
    go_enter Tryz.func116, Tryz.ntmps116
    go_wp2_with (refine wpList_store_res rfl rfl rfl rfl hz infoRef rfl rfl ?_; intro w3 hz3 hb3)
    refine bodyPost_ret (by simp [results, Tryz.results116, go_sem, cell_res hz3]; rfl) rfl ?_
    exact ⟨rfl, k0.trans hb3⟩
  · have hno : ¬ (magL s.data.toList = [] ∨ ((magL s.data.toList).getD 0 0 = 48 ∧ (1 < (magL s.data.toList).length ∨ negL s.data.toList = true))) := fun h => h.elim hm fun ⟨h, h'⟩ => h48 ⟨by rw [← hg0, h]; rfl, by rw [e2, e1] at h'; simpa using h'⟩
    obtain ⟨D, hD⟩ : ∃ D : ByteArray, s = D := ⟨_, rfl⟩
    have hDl : D.data.toList = magL s.data.toList := by rw [e2, hD]
    have hcase : (s[0].toNat = 48 ∧ s.size = 1) ∨ ((s[0].toNat : Int) == 48) = false := by
      by_cases h : s[0].toNat = 48
      · left; omega
      · right; simp; omega
    clear hm hg0 h48 h45 e2
    rw [pInt_2 hno, pInt2_form _ D.data.toList false 9223372036854775807 hDl e1 e3] at hx
    obtain ⟨R, hR⟩ : ∃ R, (if 9223372036854775807 < numVal D.data.toList then (V0, 3) else (intV1 (if false = true then - (numVal D.data.toList : Int) else numVal D.data.toList), (0 : Int))) = R := ⟨_, rfl⟩
    rw [hR] at hx
    have HX : Hid ((if digs (D.data.toList.drop 0) = false then (V0, 15) else R) = x) := hid hx
    have HRR := hid hR
    clear hx hR hno hDl e1 e3
    subst hD
    rcases hcase with ⟨c1, c2⟩ | c1
    · have c3 : ¬ 1 < s.size := by omega
      clear c2
      go_enter Tryz.func116, Tryz.ntmps116
      go_wp2
      go_loop [6, 7, 8] (fun n b i => ∃ (k : Nat) (N : Int) (bg : Bool), k ≤ s.size ∧ i = .int .i64 k ∧ n = .int .u64 N ∧ 0 ≤ N ∧ N ≤ 18446744073709551615 ∧ b = .bool bg ∧ Hid (Run 9223372036854775807 (s.data.toList.take k) N.toNat bg) ∧ Hid (digs (s.data.toList.drop k) = digs s.data.toList) ∧ Hid ((if digs (s.data.toList.drop k) = false then (V0, 15) else R) = x)) (fun _ _ i => s.size - (intOf i).toNat)
      case atStart => exact ⟨0, 0, false, by omega, rfl, rfl, by omega, by omega, rfl, hid (run_nil _), hid rfl, HX⟩
      case round =>
        obtain ⟨k, N, bg, hk, rfl, rfl, hN0, hN1, rfl, HR, HD, HK⟩ := hrel
        clear HX
        by_cases hlt : k < s.size
        · have hlt' : k < s.data.toList.length := by simpa using hlt
          by_cases hdg : isDig s[k]
          · rw [digs_step hlt' hdg] at HK HD
            obtain ⟨st1, st2⟩ := run_step (c := s[k]) HR.out (by unfold isDig at hdg; omega)
            rw [← take_snoc' s k hlt] at st1 st2
            unfold isDig at hdg
            obtain ⟨g1, g2⟩ := hdg
            have hb := s[k].toNat_lt
            clear HR
            by_cases hov : (9223372036854775807 - ((s[k].toNat : Int) - 48)) / 10 < N
            · have HS := hid (st1 (by omega))
              clear st1 st2
              go_wp2
              go_round
              case rel => exact ⟨k + 1, _, true, by omega, by go_num, rfl, (u64_in _).1, (u64_in _).2, rfl, hid (HS.out _), HD, HK⟩
              case measure => simp [intOf]; omega
            · obtain ⟨st3, st4⟩ := st2 (by omega)
              cases bg
              · have HS := hid (st4 rfl)
                have hle : N * 10 ≤ 9223372036854775807 := by omega
                clear st1 st2 st3 st4
                go_wp2
                go_round
                case rel => exact ⟨k + 1, 10 * N + ((s[k].toNat : Int) - 48), false, by omega, by go_num, rfl, by omega, by omega, rfl, hid (run_to HS.out (by omega)), HD, HK⟩
                case measure => simp [intOf]; omega
              · have HS := hid (st3 rfl)
                have hle : N * 10 ≤ 9223372036854775807 := by omega
                clear st1 st2 st3 st4
                go_wp2
                go_round
                case rel => exact ⟨k + 1, _, true, by omega, by go_num, rfl, by omega, by omega, rfl, hid (HS.out _), HD, HK⟩
                case measure => simp [intOf]; omega
          · rw [digs_stop hlt' hdg, if_pos rfl] at HK
            obtain rfl := HK.out
            unfold isDig at hdg
            have hq : s[k].toNat < 48 ∨ 57 < s[k].toNat := by omega
            clear HK hdg HR HD
            rcases hq with hq | hq
            all_goals
              go_wp2_with (refine wpList_store_res rfl rfl rfl rfl hz infoRef rfl rfl ?_; intro w3 hz3 hb3)
              refine bodyPost_ret (by simp [results, Tryz.results116, go_sem, cell_res hz3]; rfl) rfl ?_
              exact ⟨rfl, k0.trans hb3⟩
        · have e : s.data.toList.drop k = [] := List.drop_eq_nil_of_le (by simp; omega)
          have e2 : s.data.toList.take k = s.data.toList := List.take_of_length_le (by simp; omega)
          rw [e, if_neg (by simp [digs])] at HK
          rw [e2] at HR
          obtain rfl := HK.out
          clear HK HD e e2
          cases bg
          · obtain ⟨r1, r2⟩ := HR.out.1 rfl
            have HN : Hid (R = (intV1 (N), 0)) := hid (by rw [← HRR.out, if_neg (Nat.not_lt.2 r2), ← r1]; simp only [Bool.false_eq_true, if_false]; rw [Int.toNat_of_nonneg hN0])
            have hN2 : N ≤ 9223372036854775807 := by omega
            have hbk := back_pos N hN0 hN2
            clear HR r1 r2 HRR
            go_wp2_with (refine wpList_store_res rfl rfl rfl rfl hz infoRef rfl rfl ?_; intro w3 hz3 hb3)
            refine bodyPost_ret (by simp [results, Tryz.results116, go_sem, cell_res hz3]; rfl) rfl ?_
            exact ⟨by rw [HN.out]; rfl, k0.trans hb3⟩
          · have r2 := HR.out.2 rfl
            have HN : Hid (R = (V0, 3)) := hid (by rw [← HRR.out, if_pos r2])
            clear HR r2 HRR
            go_wp2_with (refine wpList_store_res rfl rfl rfl rfl hz infoRef rfl rfl ?_; intro w3 hz3 hb3)
            refine bodyPost_ret (by simp [results, Tryz.results116, go_sem, cell_res hz3]; rfl) rfl ?_
            exact ⟨by rw [HN.out]; rfl, k0.trans hb3⟩
    · go_enter Tryz.func116, Tryz.ntmps116
      go_wp2
      go_loop [6, 7, 8] (fun n b i => ∃ (k : Nat) (N : Int) (bg : Bool), k ≤ s.size ∧ i = .int .i64 k ∧ n = .int .u64 N ∧ 0 ≤ N ∧ N ≤ 18446744073709551615 ∧ b = .bool bg ∧ Hid (Run 9223372036854775807 (s.data.toList.take k) N.toNat bg) ∧ Hid (digs (s.data.toList.drop k) = digs s.data.toList) ∧ Hid ((if digs (s.data.toList.drop k) = false then (V0, 15) else R) = x)) (fun _ _ i => s.size - (intOf i).toNat)
      case atStart => exact ⟨0, 0, false, by omega, rfl, rfl, by omega, by omega, rfl, hid (run_nil _), hid rfl, HX⟩
      case round =>
        obtain ⟨k, N, bg, hk, rfl, rfl, hN0, hN1, rfl, HR, HD, HK⟩ := hrel
        clear HX
        by_cases hlt : k < s.size
        · have hlt' : k < s.data.toList.length := by simpa using hlt
          by_cases hdg : isDig s[k]
          · rw [digs_step hlt' hdg] at HK HD
            obtain ⟨st1, st2⟩ := run_step (c := s[k]) HR.out (by unfold isDig at hdg; omega)
            rw [← take_snoc' s k hlt] at st1 st2
            unfold isDig at hdg
            obtain ⟨g1, g2⟩ := hdg
            have hb := s[k].toNat_lt
            clear HR
            by_cases hov : (9223372036854775807 - ((s[k].toNat : Int) - 48)) / 10 < N
            · have HS := hid (st1 (by omega))
              clear st1 st2
              go_wp2
              go_round
              case rel => exact ⟨k + 1, _, true, by omega, by go_num, rfl, (u64_in _).1, (u64_in _).2, rfl, hid (HS.out _), HD, HK⟩
              case measure => simp [intOf]; omega
            · obtain ⟨st3, st4⟩ := st2 (by omega)
              cases bg
              · have HS := hid (st4 rfl)
                have hle : N * 10 ≤ 9223372036854775807 := by omega
                clear st1 st2 st3 st4
                go_wp2
                go_round
                case rel => exact ⟨k + 1, 10 * N + ((s[k].toNat : Int) - 48), false, by omega, by go_num, rfl, by omega, by omega, rfl, hid (run_to HS.out (by omega)), HD, HK⟩
                case measure => simp [intOf]; omega
              · have HS := hid (st3 rfl)
                have hle : N * 10 ≤ 9223372036854775807 := by omega
                clear st1 st2 st3 st4
                go_wp2
                go_round
                case rel => exact ⟨k + 1, _, true, by omega, by go_num, rfl, by omega, by omega, rfl, hid (HS.out _), HD, HK⟩
                case measure => simp [intOf]; omega
          · rw [digs_stop hlt' hdg, if_pos rfl] at HK
            obtain rfl := HK.out
            unfold isDig at hdg
            have hq : s[k].toNat < 48 ∨ 57 < s[k].toNat := by omega
            clear HK hdg HR HD
            rcases hq with hq | hq
            all_goals
              go_wp2_with (refine wpList_store_res rfl rfl rfl rfl hz infoRef rfl rfl ?_; intro w3 hz3 hb3)
              refine bodyPost_ret (by simp [results, Tryz.results116, go_sem, cell_res hz3]; rfl) rfl ?_
              exact ⟨rfl, k0.trans hb3⟩
        · have e : s.data.toList.drop k = [] := List.drop_eq_nil_of_le (by simp; omega)
          have e2 : s.data.toList.take k = s.data.toList := List.take_of_length_le (by simp; omega)
          rw [e, if_neg (by simp [digs])] at HK
          rw [e2] at HR
          obtain rfl := HK.out
          clear HK HD e e2
          cases bg
          · obtain ⟨r1, r2⟩ := HR.out.1 rfl
            have HN : Hid (R = (intV1 (N), 0)) := hid (by rw [← HRR.out, if_neg (Nat.not_lt.2 r2), ← r1]; simp only [Bool.false_eq_true, if_false]; rw [Int.toNat_of_nonneg hN0])
            have hN2 : N ≤ 9223372036854775807 := by omega
            have hbk := back_pos N hN0 hN2
            clear HR r1 r2 HRR
            go_wp2_with (refine wpList_store_res rfl rfl rfl rfl hz infoRef rfl rfl ?_; intro w3 hz3 hb3)
            refine bodyPost_ret (by simp [results, Tryz.results116, go_sem, cell_res hz3]; rfl) rfl ?_
            exact ⟨by rw [HN.out]; rfl, k0.trans hb3⟩
          · have r2 := HR.out.2 rfl
            have HN : Hid (R = (V0, 3)) := hid (by rw [← HRR.out, if_pos r2])
            clear HR r2 HRR
            go_wp2_with (refine wpList_store_res rfl rfl rfl rfl hz infoRef rfl rfl ?_; intro w3 hz3 hb3)
            refine bodyPost_ret (by simp [results, Tryz.results116, go_sem, cell_res hz3]; rfl) rfl ?_
            exact ⟨by rw [HN.out]; rfl, k0.trans hb3⟩

theorem ref_integer (s : ByteArray) (w : World) (h0 : 0 < s.size) (hs : s.size ≤ 100000) {x : V × Int} (hx : pInt s.data.toList = x) :
    Calls Tryz.prog 116 #[.string s] w (RetV w x) := by
  by_cases h : s[0].toNat = 45
  · exact ref_integer_neg s w h0 hs h hx
  · exact ref_integer_pos s w h0 hs h hx
end
end Go.Proofs.YtnbacdmlaedppaaGreatDoor
