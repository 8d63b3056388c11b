/-
  WALK: row.literal.
-/
import Derived.Test.YtkoajdbijlpgaaaDoorRowP
import Derived.Test.YtkoajdbijlpgaaaDoorRt3
namespace Go.Proofs.YtkoajdbijlpgaaaDoor
open Go.RowKit

theorem ix_lit : ∀ l : List UInt8, (Lib.indexByte l 44 = -1 ∧ (l.takeWhile (· != 44)).length = l.length) ∨ Lib.indexByte l 44 = ((l.takeWhile (· != 44)).length : Nat)
  | [] => .inl ⟨rfl, rfl⟩
  | c :: l => by
    by_cases h : c = 44
    · right; subst h; simp [Lib.indexByte]
    · have h1 : (c == 44) = false := by simpa using h
      have h2 : (c != 44) = true := by simpa using h
      rw [Lib.indexByte, h1, List.takeWhile_cons, if_pos h2]
      rcases ix_lit l with ⟨e1, e2⟩ | e
      · left; rw [e1]; simp [e2]
      · right
        have hne : (Lib.indexByte l 44 == -1) = false := by rw [beq_eq_false_iff_ne, e]; omega
        rw [if_neg (by decide), hne, if_neg (by decide), e]; simp
theorem qGo_at34 {l : List UInt8} {k : Nat} (h : k < l.length) (hc : l[k] = 34) : qGo (l.drop k) = 0 := by
  rw [List.drop_eq_getElem_cons h, hc, qGo_34]
theorem qGo_at92 {l : List UInt8} {k : Nat} (h : k < l.length) (hc : l[k] = 92) : qGo (l.drop k) = qGo (l.drop (k + 2)) + 2 := by
  by_cases h2 : k + 1 < l.length
  · rw [List.drop_eq_getElem_cons h, hc, List.drop_eq_getElem_cons h2, qGo_esc]
  · have e : l.drop (k + 1) = [] := List.drop_eq_nil_of_le (by omega)
    have e2 : l.drop (k + 2) = [] := List.drop_eq_nil_of_le (by omega)
    rw [List.drop_eq_getElem_cons h, hc, e, e2]; rfl
theorem qGo_at {l : List UInt8} {k : Nat} (h : k < l.length) (h1 : l[k] ≠ 34) (h2 : l[k] ≠ 92) : qGo (l.drop k) = qGo (l.drop (k + 1)) + 1 := by
  rw [List.drop_eq_getElem_cons h, qGo_plain h1 h2]
theorem qGo_le : ∀ (n : Nat) (l : List UInt8), l.length ≤ n → qGo l ≤ l.length + 1
  | n, [], _ => by simp [qGo]
  | 0, c :: r, h => by simp at h
  | n + 1, c :: r, h => by
    by_cases h34 : c = 34
    · subst h34; rw [qGo_34]; omega
    · by_cases h92 : c = 92
      · subst h92
        match r with
        | [] => decide
        | x :: r' =>
          have := qGo_le n r' (by simp at h; omega)
          rw [qGo_esc]; simp only [List.length_cons]; omega
      · have := qGo_le n r (by simpa using h)
        rw [qGo_plain h34 h92]; simp only [List.length_cons]; omega

theorem ix_call (s : ByteArray) (w : World) {y : Int} (hy : Lib.indexByte s.data.toList 44 = y) :
    Calls Tryd.prog 97 #[.string s, .int .u8 44] w fun e w' => e = .returned (.int .i64 y) ∧ w = w' := by
  refine (Tryd.strings_IndexByte s 44 w).mono fun e w' ⟨h, h'⟩ => ⟨?_, h'.symm⟩
  rw [h, ← hy]; rfl

set_option maxRecDepth 100000 in
set_option maxHeartbeats 1000000 in
theorem row_literal (s : ByteArray) (w : World) (hs : s.size ≤ 100000) {x : Nat} (hx : litLen s.data.toList = x) :
    Calls Tryd.prog 82 #[.string s] w fun e w' => e = .returned (.int .i64 x) ∧ w = w' := by
  have hll : s.data.toList.length = s.size := by simp
  have tl : s.toList = s.data.toList := Lib.toList_data _
  by_cases h0 : s.size = 0
  · have e0 : s.data.toList = [] := List.eq_nil_of_length_eq_zero (by omega)
    have eD : s.toList.isEmpty = true := by rw [tl, e0]; rfl
    have H1 := fun W => hid (ix_call s W (y := -1) (by rw [e0]; rfl))
    have HX : Hid (x = s.size) := hid (by rw [← hx, e0, h0]; rfl)
    clear hx e0 tl hll h0
    go_enter Tryd.func82, Tryd.ntmps82
    go_wp2_with fail
    refine (H1 _).out.mono ?_
    rintro e w1 ⟨rfl, rfl⟩
    go_wp2
    go_ret
    exact ⟨ret_i (by rw [HX.out]), rfl⟩
  · have hpos : 0 < s.size := by omega
    have eD : s.toList.isEmpty = false := by rw [tl]; simpa using list_ne hpos
    by_cases h34 : s[0].toNat = 34
    · have b34 : ((s[0].toNat : Int) != 34) = false := by rw [bne_eq_false_iff_eq]; omega
      unfold litLen at hx
      rw [first_of hpos, if_pos (UInt8.toNat.inj h34), hll] at hx
      obtain ⟨y, hy⟩ : ∃ y, qGo (s.data.toList.drop 1) + 1 = y := ⟨_, rfl⟩
      have HX : Hid (x = min (y + 1) s.size) := hid (by rw [← hx, ← hy])
      have HY := hid hy
      clear hx hy h34 tl
      go_enter Tryd.func82, Tryd.ntmps82
      go_wp2
      go_loop [4] (fun i => ∃ k : Nat, k ≤ s.size + 1 ∧ i = .int .i64 k ∧ Hid (qGo (s.data.toList.drop k) + k = y)) (fun i => s.size + 2 - (intOf i).toNat)
      case atStart => exact ⟨1, by omega, rfl, HY⟩
      case round =>
        obtain ⟨k, hk, rfl, HK⟩ := hrel
        clear HY
        by_cases hlt : k < s.size
        · have hlt' : k < s.data.toList.length := by omega
          by_cases h34 : s[k].toNat = 34
          · have b1 : ((s[k].toNat : Int) != 34) = false := by rw [bne_eq_false_iff_eq]; omega
            have e : k = y := by rw [← HK.out, qGo_at34 hlt' (UInt8.toNat.inj h34)]; omega
            subst e
            clear HK h34
            go_wp2
            go_ret
            exact ⟨ret_i (by rw [HX.out]; omega), rfl⟩
          · have b1 : ((s[k].toNat : Int) != 34) = true := by rw [bne_iff_ne]; omega
            by_cases h92 : s[k].toNat = 92
            · have b2 : ((s[k].toNat : Int) == 92) = true := by rw [beq_iff_eq]; omega
              have HN : Hid (qGo (s.data.toList.drop (k + 2)) + (k + 2) = y) := hid (by rw [← HK.out, qGo_at92 hlt' (UInt8.toNat.inj h92)]; omega)
              clear HK h34 h92
              go_wp2
              go_round
              case rel => exact ⟨k + 2, by omega, by go_num, HN⟩
              case measure => simp [intOf]; omega
            · have b2 : ((s[k].toNat : Int) == 92) = false := by rw [beq_eq_false_iff_ne]; omega
              have HN : Hid (qGo (s.data.toList.drop (k + 1)) + (k + 1) = y) := hid (by rw [← HK.out, qGo_at hlt' (fun e => h34 (congrArg UInt8.toNat e)) (fun e => h92 (congrArg UInt8.toNat e))]; omega)
              clear HK h34 h92
              go_wp2
              go_round
              case rel => exact ⟨k + 1, by omega, by go_num, HN⟩
              case measure => simp [intOf]; omega
        · have e : k = y := by rw [← HK.out, List.drop_eq_nil_of_le (by omega)]; simp [qGo]
          subst e
          clear HK
          go_wp2
          go_ret
          exact ⟨ret_i (by rw [HX.out]; omega), rfl⟩
    · have b34 : ((s[0].toNat : Int) != 34) = true := by rw [bne_iff_ne]; omega
      unfold litLen at hx
      rw [first_of hpos, if_neg (fun e => h34 (congrArg UInt8.toNat e))] at hx
      rcases ix_lit s.data.toList with ⟨e1, e2⟩ | e
      · have H1 := fun W => hid (ix_call s W e1)
        have HX : Hid (x = s.size) := hid (by rw [← hx, e2, hll])
        clear hx e1 e2 tl hll h34
        go_enter Tryd.func82, Tryd.ntmps82
        go_wp2_with fail
        refine (H1 _).out.mono ?_
        rintro e w1 ⟨rfl, rfl⟩
        go_wp2
        go_ret
        exact ⟨ret_i (by rw [HX.out]), rfl⟩
      · rw [hx] at e
        have H1 := fun W => hid (ix_call s W e)
        clear hx e tl hll h34
        go_enter Tryd.func82, Tryd.ntmps82
        go_wp2_with fail
        refine (H1 _).out.mono ?_
        rintro e w1 ⟨rfl, rfl⟩
        go_wp2
        go_ret
        exact ⟨rfl, rfl⟩
end Go.Proofs.YtkoajdbijlpgaaaDoor
