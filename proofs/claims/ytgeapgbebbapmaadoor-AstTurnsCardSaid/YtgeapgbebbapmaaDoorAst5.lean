/-
  WALKS: catalog.Valid, ast.valid.
-/
import Derived.Test.YtgeapgbebbapmaaDoorAst4
import Derived.Test.YtgeapgbebbapmaaDoorKit
import Derived.Test.YtgeapgbebbapmaaDoorProg
import Derived.Tactics
namespace Go.Proofs.YtgeapgbebbapmaaDoor
open Go.RowKit

/-- The ways of a byte at the place k of a name. -/
theorem okAt_ways (k : Nat) (c : UInt8) : (okAt k c = true ∧ 97 ≤ c.toNat ∧ c.toNat ≤ 122) ∨ (okAt k c = true ∧ 65 ≤ c.toNat ∧ c.toNat ≤ 90) ∨
    (okAt k c = true ∧ 0 < k ∧ c.toNat = 95) ∨ (okAt k c = true ∧ 0 < k ∧ 48 ≤ c.toNat ∧ c.toNat ≤ 57) ∨
    (okAt k c = false ∧ k = 0 ∧ (c.toNat < 65 ∨ (90 < c.toNat ∧ c.toNat < 97) ∨ 122 < c.toNat)) ∨
    (okAt k c = false ∧ 0 < k ∧ c.toNat ≠ 95 ∧ (c.toNat < 48 ∨ (57 < c.toNat ∧ c.toNat < 65) ∨ (90 < c.toNat ∧ c.toNat < 97) ∨ 122 < c.toNat)) := by
  have e95 : (c == 95) = decide (c.toNat = 95) := by
    by_cases h : c = 95
    · subst h; rfl
    · have h2 : ¬ c.toNat = 95 := fun e => h (UInt8.toNat.inj e)
      simp [h, h2]
  unfold okAt letQ
  rw [e95]
  simp only [Bool.or_eq_true, Bool.and_eq_true, decide_eq_true_eq, Bool.or_eq_false_iff, Bool.and_eq_false_iff, decide_eq_false_iff_not]
  omega

set_option maxRecDepth 100000 in
set_option maxHeartbeats 4000000 in
theorem cat_valid (s : ByteArray) (w : World) {x : Bool} (hx : catB s.data.toList = x) :
    Calls Tryd.prog 70 #[.string s] w fun e w' => e = .returned (.bool x) ∧ w = w' := by
  have hll : s.data.toList.length = s.size := by simp
  rw [catB_from, hll] at hx
  by_cases h0 : 0 < s.size
  · have he : s.toList.isEmpty = false := by
      rw [Lib.toList_data]
      cases hd : s.data.toList with
      | nil => rw [hd] at hll; simp at hll; omega
      | cons a l => rfl
    by_cases h16 : s.size ≤ 16
    · have HX : Hid (catFrom 0 (s.data.toList.drop 0) = x) := hid (by rw [← hx]; simp [h0, h16])
      clear hx
      go_enter Tryd.func70, Tryd.ntmps70
      go_wp2
      go_loop [15] (fun i => ∃ k : Nat, k ≤ s.size ∧ i = .int .i64 k ∧ Hid (catFrom k (s.data.toList.drop k) = x)) (fun i => s.size - (intOf i).toNat)
      case atStart => exact ⟨0, by omega, rfl, HX⟩
      case round =>
        obtain ⟨k, hk, rfl, HK⟩ := hrel
        clear HX
        by_cases hlt : k < s.size
        · have hlt' : k < s.data.toList.length := by simpa using hlt
          have hget : s.data.toList[k] = s[k] := by rw [Array.getElem_toList]; rfl
          have hon := fun h => catFrom_on hlt' h
          have hbad := fun h => catFrom_bad hlt' h
          rw [hget] at hon hbad
          have hb := s[k].toNat_lt
          rcases okAt_ways k s[k] with ⟨h, h1, h2⟩ | ⟨h, h1, h2⟩ | ⟨h, h1, h2⟩ | ⟨h, h1, h2, h3⟩ | ⟨h, h1, h2⟩ | ⟨h, h1, h3, h2⟩
          · have HN : Hid (catFrom (k + 1) (s.data.toList.drop (k + 1)) = x) := hid ((hon h).symm.trans HK.out)
            clear hon hbad h HK hget
            go_wp2
            go_round
            case rel => exact ⟨k + 1, by omega, by go_num, HN⟩
            case measure => simp [intOf]; omega
          · have HN : Hid (catFrom (k + 1) (s.data.toList.drop (k + 1)) = x) := hid ((hon h).symm.trans HK.out)
            clear hon hbad h HK hget
            go_wp2
            go_round
            case rel => exact ⟨k + 1, by omega, by go_num, HN⟩
            case measure => simp [intOf]; omega
          · have HN : Hid (catFrom (k + 1) (s.data.toList.drop (k + 1)) = x) := hid ((hon h).symm.trans HK.out)
            have b95 : ((s[k].toNat : Int) != 95) = false := by rw [bne_eq_false_iff_eq]; omega
            have bk : ((k : Int) == 0) = false := by rw [beq_eq_false_iff_ne]; omega
            have h5 : 90 < s[k].toNat := by omega
            have h6 : s[k].toNat < 97 := by omega
            clear hon hbad h HK hget h2
            go_wp2
            go_round
            case rel => exact ⟨k + 1, by omega, by go_num, HN⟩
            case measure => simp [intOf]; omega
          · have HN : Hid (catFrom (k + 1) (s.data.toList.drop (k + 1)) = x) := hid ((hon h).symm.trans HK.out)
            have b95 : ((s[k].toNat : Int) != 95) = true := by rw [bne_iff_ne]; omega
            have bk : ((k : Int) == 0) = false := by rw [beq_eq_false_iff_ne]; omega
            clear hon hbad h HK hget
            go_wp2
            go_round
            case rel => exact ⟨k + 1, by omega, by go_num, HN⟩
            case measure => simp [intOf]; omega
          · have hx : false = x := (hbad h).symm.trans HK.out
            subst hx
            have bk : ((k : Int) == 0) = true := by rw [beq_iff_eq]; omega
            clear hon hbad h HK hget h1
            rcases h2 with h2 | ⟨h2, h4⟩ | h2
            all_goals
              try (have d90 : decide ((s[k].toNat : Int) ≤ 90) = false := decide_eq_false (by omega))
              try (have d122 : decide ((s[k].toNat : Int) ≤ 122) = false := decide_eq_false (by omega))
              go_wp2
              go_ret
              exact ⟨rfl, rfl⟩
          · have hx : false = x := (hbad h).symm.trans HK.out
            subst hx
            have b95 : ((s[k].toNat : Int) != 95) = true := by rw [bne_iff_ne]; omega
            have bk : ((k : Int) == 0) = false := by rw [beq_eq_false_iff_ne]; omega
            clear hon hbad h HK hget h3
            rcases h2 with h2 | ⟨h2, h4⟩ | ⟨h2, h4⟩ | h2
            all_goals
              try (have d90 : decide ((s[k].toNat : Int) ≤ 90) = false := decide_eq_false (by omega))
              try (have d122 : decide ((s[k].toNat : Int) ≤ 122) = false := decide_eq_false (by omega))
              go_wp2
              go_ret
              exact ⟨rfl, rfl⟩
        · have hx : true = x := (catFrom_end (by simpa using hlt)).symm.trans HK.out
          subst hx
          clear HK
          go_wp2
          go_ret
          exact ⟨rfl, rfl⟩
    · have hx : x = false := by rw [← hx]; simp [h16]
      subst hx
      go_enter Tryd.func70, Tryd.ntmps70
      go_wp2
      go_ret
      exact ⟨rfl, rfl⟩
  · have he : s.toList.isEmpty = true := by
      rw [Lib.toList_data]
      have : s.data.toList = [] := List.eq_nil_of_length_eq_zero (by rw [hll]; omega)
      rw [this]; rfl
    have hx : x = false := by rw [← hx]; simp [h0]
    subst hx
    clear hll
    go_enter Tryd.func70, Tryd.ntmps70
    go_wp2
    go_ret
    exact ⟨rfl, rfl⟩

theorem tl_mk (l : Str) : (⟨l.toArray⟩ : ByteArray).toList = l := by rw [Lib.toList_data]
theorem beq_list (a b : Str) : (a == b) = decide (a = b) := by
  by_cases h : a = b <;> simp [h]

set_option maxRecDepth 100000 in
set_option maxHeartbeats 2000000 in
theorem ast_valid (l : Str) (w : World) {x : Bool} (hx : nameB l = x) :
    Calls Tryd.prog 52 #[.string ⟨l.toArray⟩] w fun e w' => e = .returned (.bool x) ∧ w = w' := by
  obtain ⟨s, hs⟩ : ∃ s : ByteArray, s = ⟨l.toArray⟩ := ⟨_, rfl⟩
  have hl : s.data.toList = l := by rw [hs]
  rw [← hs]
  clear hs
  subst hl
  have tl : s.data.toList = s.toList := (Lib.toList_data s).symm
  obtain ⟨y, hy⟩ : ∃ y, catB s.data.toList = y := ⟨_, rfl⟩
  have HV := fun W => hid (cat_valid s W hy)
  unfold nameB keyQ at hx
  rw [hy, tl] at hx
  clear hy tl
  simp only [List.contains_cons, List.contains_nil, Bool.or_false] at hx
  cases b1 : (s.toList == [99, 111, 117, 110, 116])
  · cases b2 : (s.toList == [100, 101, 115, 99])
    · cases b3 : (s.toList == [109, 97, 120])
      · cases b4 : (s.toList == [109, 105, 110])
        · cases b5 : (s.toList == [110, 111, 116])
          · cases b6 : (s.toList == [111, 114, 100, 101, 114])
            · cases b7 : (s.toList == [115, 117, 109])
              · rw [b1, b2, b3, b4, b5, b6, b7] at hx
                have hx : y = x := by simpa using hx
                subst hx
                go_enter Tryd.func52, Tryd.ntmps52
                go_wp2_with fail
                refine (HV _).out.mono ?_
                rintro e w1 ⟨rfl, rfl⟩
                go_wp2
                go_ret
                exact ⟨rfl, rfl⟩
              all_goals
                have hx : x = false := by rw [← hx, b7]; simp
                subst hx
                clear HV
                go_enter Tryd.func52, Tryd.ntmps52
                go_wp2
                go_ret
                exact ⟨rfl, rfl⟩
            all_goals
              have hx : x = false := by rw [← hx, b6]; simp
              subst hx
              clear HV
              go_enter Tryd.func52, Tryd.ntmps52
              go_wp2
              go_ret
              exact ⟨rfl, rfl⟩
          all_goals
            have hx : x = false := by rw [← hx, b5]; simp
            subst hx
            clear HV
            go_enter Tryd.func52, Tryd.ntmps52
            go_wp2
            go_ret
            exact ⟨rfl, rfl⟩
        all_goals
          have hx : x = false := by rw [← hx, b4]; simp
          subst hx
          clear HV
          go_enter Tryd.func52, Tryd.ntmps52
          go_wp2
          go_ret
          exact ⟨rfl, rfl⟩
      all_goals
        have hx : x = false := by rw [← hx, b3]; simp
        subst hx
        clear HV
        go_enter Tryd.func52, Tryd.ntmps52
        go_wp2
        go_ret
        exact ⟨rfl, rfl⟩
    all_goals
      have hx : x = false := by rw [← hx, b2]; simp
      subst hx
      clear HV
      go_enter Tryd.func52, Tryd.ntmps52
      go_wp2
      go_ret
      exact ⟨rfl, rfl⟩
  all_goals
    have hx : x = false := by rw [← hx, b1]; simp
    subst hx
    clear HV
    go_enter Tryd.func52, Tryd.ntmps52
    go_wp2
    go_ret
    exact ⟨rfl, rfl⟩
end Go.Proofs.YtgeapgbebbapmaaDoor
