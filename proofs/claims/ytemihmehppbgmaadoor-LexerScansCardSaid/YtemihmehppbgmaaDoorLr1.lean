/-
  WALKS: the document's word and quote (layer 18).
-/
import Derived.Test.YtemihmehppbgmaaDoorLw1
namespace Go.Proofs.YtemihmehppbgmaaDoor
open Go.RowKit

set_option maxRecDepth 100000 in
set_option maxHeartbeats 1000000 in
theorem ref_word (s : ByteArray) (a : Nat) (ha : a ≤ s.size) (w : World) (hs : s.size ≤ 100000) {x : Nat} (hx : a + wordLen (s.data.toList.drop a) = x) :
    Calls Tryd.prog 46 #[.string s, .int .i64 a] w fun e w' => e = .returned (.int .i64 x) ∧ w = w' := by
  have HX : Hid (wordLen (s.data.toList.drop a) + a = x) := hid (by rw [← hx]; omega)
  clear hx
  go_enter Tryd.func46, Tryd.ntmps46
  go_wp2
  go_loop [1] (fun i => ∃ k : Nat, k ≤ s.size ∧ i = .int .i64 k ∧ Hid (wordLen (s.data.toList.drop k) + k = x)) (fun i => s.size - (intOf i).toNat)
  case atStart => exact ⟨a, by omega, rfl, HX⟩
  case round =>
    obtain ⟨k, hk, rfl, HK⟩ := hrel
    clear HX
    by_cases hlt : k < s.size
    · have hlt' : k < s.data.toList.length := by simpa using hlt
      have hb := s[k].toNat_lt
      rcases wrd_ways s[k] with ⟨a1, a4⟩ | ⟨a1, a2, a4⟩ | ⟨a1, a2, a3, a4⟩ | ⟨a1, a2, a3, a4⟩
      · have hst := wordLen_step hlt' a4
        rw [hst] at HK
        have H1 := fun W => hid (ref_letter s[k] W a1)
        have HK2 := hid ((Nat.add_right_comm _ _ _).trans HK.out)
        clear hst HK a1 a4
        go_wp2_with fail
        refine (H1 _).out.mono ?_
        rintro e w1 ⟨rfl, rfl⟩
        clear H1
        go_wp2
        go_round
        case rel => exact ⟨k + 1, by omega, by go_num, HK2⟩
        case measure => simp [intOf]; omega
      · have hst := wordLen_step hlt' a4
        rw [hst] at HK
        have H1 := fun W => hid (ref_letter s[k] W a1)
        have H2 := fun W => hid (ref_digit s[k] W a2)
        have HK2 := hid ((Nat.add_right_comm _ _ _).trans HK.out)
        clear hst HK a1 a2 a4
        go_wp2_with fail
        refine (H1 _).out.mono ?_
        rintro e w1 ⟨rfl, rfl⟩
        clear H1
        go_wp2_with fail
        refine (H2 _).out.mono ?_
        rintro e w1 ⟨rfl, rfl⟩
        clear H2
        go_wp2
        go_round
        case rel => exact ⟨k + 1, by omega, by go_num, HK2⟩
        case measure => simp [intOf]; omega
      · have hst := wordLen_step hlt' a4
        rw [hst] at HK
        have H1 := fun W => hid (ref_letter s[k] W a1)
        have H2 := fun W => hid (ref_digit s[k] W a2)
        have HK2 := hid ((Nat.add_right_comm _ _ _).trans HK.out)
        have b95 : ((s[k].toNat : Int) == 95) = true := by rw [beq_iff_eq]; omega
        clear hst HK a1 a2 a3 a4
        go_wp2_with fail
        refine (H1 _).out.mono ?_
        rintro e w1 ⟨rfl, rfl⟩
        clear H1
        go_wp2_with fail
        refine (H2 _).out.mono ?_
        rintro e w1 ⟨rfl, rfl⟩
        clear H2
        go_wp2
        go_round
        case rel => exact ⟨k + 1, by omega, by go_num, HK2⟩
        case measure => simp [intOf]; omega
      · rw [wordLen_halt hlt' a4, Nat.zero_add] at HK
        obtain rfl := HK.out
        have H1 := fun W => hid (ref_letter s[k] W a1)
        have H2 := fun W => hid (ref_digit s[k] W a2)
        have b95 : ((s[k].toNat : Int) == 95) = false := by rw [beq_eq_false_iff_ne]; omega
        clear HK a1 a2 a4
        go_wp2_with fail
        refine (H1 _).out.mono ?_
        rintro e w1 ⟨rfl, rfl⟩
        clear H1
        go_wp2_with fail
        refine (H2 _).out.mono ?_
        rintro e w1 ⟨rfl, rfl⟩
        clear H2
        go_wp2
        go_ret
        exact ⟨rfl, rfl⟩
    · have e : s.data.toList.drop k = [] := List.drop_eq_nil_of_le (by simp; omega)
      rw [e] at HK
      have e2 : Hid (x = s.size) := hid (by rw [← HK.out]; simp [wordLen]; omega)
      have hks : k = s.size := by omega
      subst hks
      clear HK e
      go_wp2
      go_ret
      exact ⟨ret_i (by rw [e2.out]), rfl⟩

/-- Where a string ends, or -1. -/
def qInt (o : Option Nat) (k : Nat) : Int := match o with
  | some n => ((k + n : Nat) : Int)
  | none => -1
theorem qInt_map (o : Option Nat) (k : Nat) : qInt (o.map (· + 1)) k = qInt o (k + 1) := by
  cases o with
  | none => rfl
  | some n => show ((k + (n + 1) : Nat) : Int) = ((k + 1 + n : Nat) : Int); congr 1; omega
theorem qInt_esc (l : List UInt8) (k : Nat) : qInt (strGo true (l.drop (k + 1))) (k + 1) = qInt (strGo false (l.drop (k + 2))) (k + 2) := by
  by_cases h : k + 1 < l.length
  · rw [strGo_esc1 h, qInt_map]
  · rw [List.drop_eq_nil_of_le (by omega), List.drop_eq_nil_of_le (by omega)]; rfl

set_option maxRecDepth 100000 in
set_option maxHeartbeats 1000000 in
theorem ref_quote (s : ByteArray) (a : Nat) (ha : a < s.size) (w : World) (hs : s.size ≤ 100000) {x : Int} (hx : qInt (strLen (s.data.toList.drop a)) a = x) :
    Calls Tryd.prog 49 #[.string s, .int .i64 a] w fun e w' => e = .returned (.int .i64 x) ∧ w = w' := by
  have HX : Hid (qInt (strGo false (s.data.toList.drop (a + 1))) (a + 1) = x) := hid (by rw [← hx]; unfold strLen; rw [qInt_map, List.drop_drop])
  clear hx
  go_enter Tryd.func49, Tryd.ntmps49
  go_wp2
  go_loop [1] (fun i => ∃ k : Nat, k ≤ s.size + 1 ∧ i = .int .i64 k ∧ Hid (qInt (strGo false (s.data.toList.drop k)) k = x)) (fun i => s.size + 2 - (intOf i).toNat)
  case atStart => exact ⟨a + 1, by omega, by go_num, HX⟩
  case round =>
    obtain ⟨k, hk, rfl, HK⟩ := hrel
    clear HX
    by_cases hlt : k < s.size
    · have hlt' : k < s.data.toList.length := by simpa using hlt
      by_cases h34 : s[k].toNat = 34
      · have hx := HK.out
        rw [strGo_34 hlt' (by have e : s[k] = 34 := UInt8.toNat.inj h34; exact e)] at hx
        have E1 : Hid (x = (k : Int) + 1) := hid (by rw [← hx]; rfl)
        clear hx HK
        go_wp2
        go_ret
        exact ⟨ret_i (by rw [E1.out]), rfl⟩
      · have b34 : ((s[k].toNat : Int) == 34) = false := by rw [beq_eq_false_iff_ne]; omega
        by_cases h92 : s[k].toNat = 92
        · have HN : Hid (qInt (strGo false (s.data.toList.drop (k + 2))) (k + 2) = x) := hid (by
            rw [← HK.out, strGo_92 hlt' (by have e : s[k] = 92 := UInt8.toNat.inj h92; exact e), qInt_map, qInt_esc])
          clear HK h34
          go_wp2
          go_round
          case rel => exact ⟨k + 2, by omega, by go_num, HN⟩
          case measure => simp [intOf]; omega
        · have b92 : ((s[k].toNat : Int) == 92) = false := by rw [beq_eq_false_iff_ne]; omega
          have HN : Hid (qInt (strGo false (s.data.toList.drop (k + 1))) (k + 1) = x) := hid (by
            rw [← HK.out, strGo_else hlt' (fun e => h92 (congrArg UInt8.toNat e)) (fun e => h34 (congrArg UInt8.toNat e)), qInt_map])
          clear HK h34 h92
          go_wp2
          go_round
          case rel => exact ⟨k + 1, by omega, by go_num, HN⟩
          case measure => simp [intOf]; omega
    · have E1 : Hid (x = -1) := hid (by rw [← HK.out, List.drop_eq_nil_of_le (by simp; omega)]; rfl)
      have hge : s.size ≤ k := by omega
      clear HK
      go_wp2
      go_ret
      exact ⟨ret_i (by rw [E1.out]), rfl⟩
end Go.Proofs.YtemihmehppbgmaaDoor
