/-
  PARTS of a claim, merged by segs.py: Lw1, Lw2, SymIx, LwS.
-/
import Derived.Test.YtjhnopnppimnhaaGreatDoorZ05
import Derived.Test.YtjhnopnppimnhaaGreatDoorZ15
import Derived.Test.YtjhnopnppimnhaaGreatDoorShelf3
namespace Go.Proofs.YtjhnopnppimnhaaGreatDoor

/-! ### Lw1 -/
section
open Go.RowKit

theorem letB_cases (c : UInt8) {x : Bool} (hx : letB c = x) : (x = false ∧ c.toNat < 65) ∨ (x = true ∧ 65 ≤ c.toNat ∧ c.toNat ≤ 90) ∨ (x = false ∧ 90 < c.toNat ∧ c.toNat < 97) ∨ (x = true ∧ 97 ≤ c.toNat ∧ c.toNat ≤ 122) ∨ (x = false ∧ 122 < c.toNat) := by
  subst hx
  unfold letB
  by_cases h1 : c.toNat < 65
  · left; simp; omega
  · by_cases h2 : c.toNat ≤ 90
    · right; left; simp; omega
    · by_cases h3 : c.toNat < 97
      · right; right; left; simp; omega
      · by_cases h4 : c.toNat ≤ 122
        · right; right; right; left; simp; omega
        · right; right; right; right; simp; omega
theorem digB_cases (c : UInt8) {x : Bool} (hx : digB c = x) : (x = false ∧ c.toNat < 48) ∨ (x = true ∧ 48 ≤ c.toNat ∧ c.toNat ≤ 57) ∨ (x = false ∧ 57 < c.toNat) := by
  subst hx
  unfold digB
  by_cases h1 : c.toNat < 48
  · left; simp; omega
  · by_cases h2 : c.toNat ≤ 57
    · right; left; simp; omega
    · right; right; simp; omega

set_option maxHeartbeats 1000000 in
theorem lex_letter (c : UInt8) (w : World) {x : Bool} (hx : letB c = x) :
    Calls Tryz.prog 111 #[.int .u8 c.toNat] w fun e w' => e = .returned (.bool x) ∧ w = w' := by
  rcases letB_cases c hx with ⟨rfl, h1⟩ | ⟨rfl, h1, h2⟩ | ⟨rfl, h1, h2⟩ | ⟨rfl, h1, h2⟩ | ⟨rfl, h1⟩
  all_goals
    clear hx
    go_enter Tryz.func111, Tryz.ntmps111
    go_wp2
    go_ret
    exact ⟨ret_b (by first | rfl | (simp; omega)), rfl⟩
set_option maxHeartbeats 1000000 in
theorem lex_digit (c : UInt8) (w : World) {x : Bool} (hx : digB c = x) :
    Calls Tryz.prog 113 #[.int .u8 c.toNat] w fun e w' => e = .returned (.bool x) ∧ w = w' := by
  rcases digB_cases c hx with ⟨rfl, h1⟩ | ⟨rfl, h1, h2⟩ | ⟨rfl, h1⟩
  all_goals
    clear hx
    go_enter Tryz.func113, Tryz.ntmps113
    go_wp2
    go_ret
    exact ⟨ret_b (by first | rfl | (simp; omega)), rfl⟩

theorem wordLen_step {l : List UInt8} {k : Nat} (h : k < l.length) (hw : wrdB l[k] = true) : wordLen (l.drop k) = wordLen (l.drop (k + 1)) + 1 := by
  rw [List.drop_eq_getElem_cons h]; unfold wordLen; rw [List.takeWhile_cons, if_pos hw]; rfl
theorem wordLen_halt {l : List UInt8} {k : Nat} (h : k < l.length) (hw : wrdB l[k] = false) : wordLen (l.drop k) = 0 := by
  rw [List.drop_eq_getElem_cons h]; unfold wordLen; rw [List.takeWhile_cons, if_neg (by rw [hw]; decide)]; rfl
/-- The ways in which a byte is one of a word's, or not. -/
theorem wrd_ways (c : UInt8) : (letB c = true ∧ wrdB c = true) ∨ (letB c = false ∧ digB c = true ∧ wrdB c = true) ∨ (letB c = false ∧ digB c = false ∧ c.toNat = 95 ∧ wrdB c = true) ∨ (letB c = false ∧ digB c = false ∧ c.toNat ≠ 95 ∧ wrdB c = false) := by
  unfold wrdB
  cases h1 : letB c
  · cases h2 : digB c
    · by_cases h3 : c.toNat = 95
      · have : c = 95 := UInt8.toNat.inj h3
        subst this
        right; right; left; simp
      · have : (c == 95) = false := by simpa using fun e => h3 (congrArg UInt8.toNat e)
        right; right; right; simp [this, h3]
    · right; left; simp
  · left; simp

/-- Does a word's byte stand at k? Calls of letter and digit, walked. -/
theorem strGo_esc1 {l : List UInt8} {k : Nat} (h : k < l.length) : strGo true (l.drop k) = (strGo false (l.drop (k + 1))).map (· + 1) := by
  rw [List.drop_eq_getElem_cons h, strGo]
theorem strGo_92 {l : List UInt8} {k : Nat} (h : k < l.length) (hc : l[k] = 92) : strGo false (l.drop k) = (strGo true (l.drop (k + 1))).map (· + 1) := by
  rw [List.drop_eq_getElem_cons h, strGo, if_pos hc]
theorem strGo_34 {l : List UInt8} {k : Nat} (h : k < l.length) (hc : l[k] = 34) : strGo false (l.drop k) = some 1 := by
  rw [List.drop_eq_getElem_cons h, strGo, if_neg (by rw [hc]; decide), if_pos hc]
theorem strGo_else {l : List UInt8} {k : Nat} (h : k < l.length) (h1 : l[k] ≠ 92) (h2 : l[k] ≠ 34) : strGo false (l.drop k) = (strGo false (l.drop (k + 1))).map (· + 1) := by
  rw [List.drop_eq_getElem_cons h, strGo, if_neg h1, if_neg h2]
theorem strGo_end (e : Bool) : strGo e [] = none := by cases e <;> rfl
theorem map_map_add (o : Option Nat) (k : Nat) : (o.map (· + 1)).map (· + k) = o.map (· + (k + 1)) := by
  cases o with
  | none => rfl
  | some n => simp only [Option.map_some]; congr 1; omega

set_option maxRecDepth 100000 in
set_option maxHeartbeats 1000000 in
theorem lex_wordLength (s : ByteArray) (w : World) (hs : s.size ≤ 100000) {x : Nat} (hx : wordLen s.data.toList = x) :
    Calls Tryz.prog 115 #[.string s] w fun e w' => e = .returned (.int .i64 x) ∧ w = w' := by
  have HX : Hid (wordLen (s.data.toList.drop 0) + 0 = x) := hid hx
  clear hx
  go_enter Tryz.func115, Tryz.ntmps115
  go_wp2
  go_loop [6] (fun i => ∃ k : Nat, k ≤ s.size ∧ i = .int .i64 k ∧ Hid (wordLen (s.data.toList.drop k) + k = x)) (fun i => s.size - (intOf i).toNat)
  case atStart => exact ⟨0, by omega, rfl, HX⟩
  case round =>
    obtain ⟨k, hk, rfl, HK⟩ := hrel
    clear HX
    by_cases hlt : k < s.size
    · have hlt' : k < s.data.toList.length := by simpa using hlt
      have hb := s[k].toNat_lt
      rcases wrd_ways s[k] with ⟨a1, a4⟩ | ⟨a1, a2, a4⟩ | ⟨a1, a2, a3, a4⟩ | ⟨a1, a2, a3, a4⟩
      · have hst := wordLen_step hlt' a4
        rw [hst] at HK
        have H1 := fun W => hid (lex_letter s[k] W a1)
        have HK2 := hid ((Nat.add_right_comm _ _ _).trans HK.out)
        clear hst HK a1 a4
        go_wp2_with fail
        refine (H1 _).out.mono ?_
        rintro e w1 ⟨rfl, rfl⟩
        clear H1
        go_wp2
        go_round
        case rel => exact ⟨k + 1, by omega, by go_num, HK2⟩
        case measure => simp [intOf]; omega
      · have hst := wordLen_step hlt' a4
        rw [hst] at HK
        have H1 := fun W => hid (lex_letter s[k] W a1)
        have H2 := fun W => hid (lex_digit s[k] W a2)
        have HK2 := hid ((Nat.add_right_comm _ _ _).trans HK.out)
        clear hst HK a1 a2 a4
        go_wp2_with fail
        refine (H1 _).out.mono ?_
        rintro e w1 ⟨rfl, rfl⟩
        clear H1
        go_wp2_with fail
        refine (H2 _).out.mono ?_
        rintro e w1 ⟨rfl, rfl⟩
        clear H2
        go_wp2
        go_round
        case rel => exact ⟨k + 1, by omega, by go_num, HK2⟩
        case measure => simp [intOf]; omega
      · have hst := wordLen_step hlt' a4
        rw [hst] at HK
        have H1 := fun W => hid (lex_letter s[k] W a1)
        have H2 := fun W => hid (lex_digit s[k] W a2)
        have HK2 := hid ((Nat.add_right_comm _ _ _).trans HK.out)
        have b95 : ((s[k].toNat : Int) != 95) = false := by rw [bne_eq_false_iff_eq]; omega
        clear hst HK a1 a2 a3 a4
        go_wp2_with fail
        refine (H1 _).out.mono ?_
        rintro e w1 ⟨rfl, rfl⟩
        clear H1
        go_wp2_with fail
        refine (H2 _).out.mono ?_
        rintro e w1 ⟨rfl, rfl⟩
        clear H2
        go_wp2
        go_round
        case rel => exact ⟨k + 1, by omega, by go_num, HK2⟩
        case measure => simp [intOf]; omega
      · rw [wordLen_halt hlt' a4, Nat.zero_add] at HK
        obtain rfl := HK.out
        have H1 := fun W => hid (lex_letter s[k] W a1)
        have H2 := fun W => hid (lex_digit s[k] W a2)
        have b95 : ((s[k].toNat : Int) != 95) = true := by rw [bne_iff_ne]; omega
        clear HK a1 a2 a4
        go_wp2_with fail
        refine (H1 _).out.mono ?_
        rintro e w1 ⟨rfl, rfl⟩
        clear H1
        go_wp2_with fail
        refine (H2 _).out.mono ?_
        rintro e w1 ⟨rfl, rfl⟩
        clear H2
        go_wp2
        go_ret
        exact ⟨rfl, rfl⟩
    · have e : s.data.toList.drop k = [] := List.drop_eq_nil_of_le (by simp; omega)
      rw [e] at HK
      have e2 : Hid (x = s.size) := hid (by rw [← HK.out]; simp [wordLen]; omega)
      clear HK e
      go_wp2
      go_ret
      exact ⟨ret_i (by rw [e2.out]), rfl⟩

/-- A call that returns a length and whether there is one. -/
def lenB (o : Option Nat) : Nat × Bool := match o with
  | some n => (n, true)
  | none => (0, false)

set_option maxRecDepth 100000 in
set_option maxHeartbeats 1000000 in
theorem lex_stringLength (s : ByteArray) (w : World) (h0 : 0 < s.size) (hs : s.size ≤ 100000) {n : Nat} {b : Bool} (hx : lenB (strLen s.data.toList) = (n, b)) :
    Calls Tryz.prog 116 #[.string s] w fun e w' => e = .returned (.tuple #[.int .i64 n, .bool b]) ∧ w = w' := by
  have HX : Hid (lenB ((strGo false (s.data.toList.drop 1)).map (· + 1)) = (n, b)) := hid hx
  clear hx
  go_enter Tryz.func116, Tryz.ntmps116
  go_wp2
  go_loop [4, 8] (fun q i => ∃ (k : Nat) (esc : Bool), k ≤ s.size ∧ i = .int .i64 k ∧ q = .bool esc ∧ Hid ((k = 0 → esc = false) ∧ (0 < k → lenB ((strGo esc (s.data.toList.drop k)).map (· + k)) = (n, b)))) (fun _ i => s.size - (intOf i).toNat)
  case atStart => exact ⟨0, false, by omega, rfl, rfl, hid ⟨fun _ => rfl, fun h => absurd h (by omega)⟩⟩
  case round =>
    obtain ⟨k, esc, hk, rfl, rfl, HK⟩ := hrel
    by_cases hk0 : k = 0
    · have he := HK.out.1 hk0
      subst he
      have hk1 : k ≤ 0 := by omega
      have bk : ((k : Int) == 0) = true := by rw [hk0]; rfl
      have HN : Hid ((k + 1 = 0 → false = false) ∧ (0 < k + 1 → lenB ((strGo false (s.data.toList.drop (k + 1))).map (· + (k + 1))) = (n, b))) := hid ⟨fun _ => rfl, fun _ => by rw [hk0]; exact HX.out⟩
      have hlt : k < s.size := by omega
      clear HK HX hk0
      go_wp2
      go_round
      case rel => exact ⟨k + 1, false, by omega, by go_num, rfl, HN⟩
      case measure => simp [intOf]; omega
    · have hkp : 0 < k := by omega
      have hx := HK.out.2 hkp
      have bk : ((k : Int) == 0) = false := by simp; omega
      clear HK HX
      by_cases hlt : k < s.size
      · have hlt' : k < s.data.toList.length := by simpa using hlt
        cases esc
        · by_cases h92 : s[k].toNat = 92
          · rw [strGo_92 hlt' (by have e : s[k] = 92 := UInt8.toNat.inj h92; exact e), map_map_add] at hx
            have HN : Hid ((k + 1 = 0 → true = false) ∧ (0 < k + 1 → lenB ((strGo true (s.data.toList.drop (k + 1))).map (· + (k + 1))) = (n, b))) := hid ⟨fun h => by omega, fun _ => hx⟩
            clear hx hk0
            go_wp2
            go_round
            case rel => exact ⟨k + 1, true, by omega, by go_num, rfl, HN⟩
            case measure => simp [intOf]; omega
          · have b92 : ((s[k].toNat : Int) == 92) = false := by simp; omega
            by_cases h34 : s[k].toNat = 34
            · rw [strGo_34 hlt' (by have e : s[k] = 34 := UInt8.toNat.inj h34; exact e)] at hx
              have hx' : (1 + k, true) = (n, b) := hx
              injection hx' with e1 e2
              subst e2
              have E1 : Hid ((n : Int) = k + 1) := hid (by rw [← e1]; omega)
              clear e1 hk0 h92
              go_wp2
              go_ret2
              rw [E1.out]
              exact ⟨rfl, rfl⟩
            · have b34 : ((s[k].toNat : Int) == 34) = false := by simp; omega
              rw [strGo_else hlt' (fun e => h92 (congrArg UInt8.toNat e)) (fun e => h34 (congrArg UInt8.toNat e)), map_map_add] at hx
              have HN : Hid ((k + 1 = 0 → false = false) ∧ (0 < k + 1 → lenB ((strGo false (s.data.toList.drop (k + 1))).map (· + (k + 1))) = (n, b))) := hid ⟨fun _ => rfl, fun _ => hx⟩
              clear hx hk0 h92 h34
              go_wp2
              go_round
              case rel => exact ⟨k + 1, false, by omega, by go_num, rfl, HN⟩
              case measure => simp [intOf]; omega
        · rw [strGo_esc1 hlt', map_map_add] at hx
          have HN : Hid ((k + 1 = 0 → false = false) ∧ (0 < k + 1 → lenB ((strGo false (s.data.toList.drop (k + 1))).map (· + (k + 1))) = (n, b))) := hid ⟨fun _ => rfl, fun _ => hx⟩
          clear hx hk0
          go_wp2
          go_round
          case rel => exact ⟨k + 1, false, by omega, by go_num, rfl, HN⟩
          case measure => simp [intOf]; omega
      · have e : s.data.toList.drop k = [] := List.drop_eq_nil_of_le (by simp; omega)
        rw [e, strGo_end] at hx
        injection hx with e1 e2
        subst e1 e2
        clear hk0 e
        go_wp2
        go_ret2
        exact ⟨rfl, rfl⟩

/-- How many bytes of white space stand at the beginning. -/
def skipN (l : List UInt8) : Nat := (l.takeWhile whtB).length
theorem skip_step {l : List UInt8} {k : Nat} (h : k < l.length) (hw : whtB l[k] = true) : skipN (l.drop k) = skipN (l.drop (k + 1)) + 1 := by
  rw [List.drop_eq_getElem_cons h]; unfold skipN; rw [List.takeWhile_cons, if_pos hw]; rfl
theorem skip_halt {l : List UInt8} {k : Nat} (h : k < l.length) (hw : whtB l[k] = false) : skipN (l.drop k) = 0 := by
  rw [List.drop_eq_getElem_cons h]; unfold skipN; rw [List.takeWhile_cons, if_neg (by rw [hw]; decide)]; rfl
theorem wht_ways (c : UInt8) : (whtB c = true ∧ (c.toNat = 32 ∨ c.toNat = 9 ∨ c.toNat = 10 ∨ c.toNat = 13)) ∨ (whtB c = false ∧ c.toNat ≠ 32 ∧ c.toNat ≠ 9 ∧ c.toNat ≠ 10 ∧ c.toNat ≠ 13) := by
  have key : ∀ i : Fin 256, (whtB (UInt8.ofNat i.val) = true ∧ (i.val = 32 ∨ i.val = 9 ∨ i.val = 10 ∨ i.val = 13)) ∨ (whtB (UInt8.ofNat i.val) = false ∧ i.val ≠ 32 ∧ i.val ≠ 9 ∧ i.val ≠ 10 ∧ i.val ≠ 13) := by decide +kernel
  have := key ⟨c.toNat, c.toNat_lt⟩
  simp only [UInt8.ofNat_toNat] at this
  exact this

set_option maxRecDepth 100000 in
set_option maxHeartbeats 1000000 in
theorem lex_skip (s : ByteArray) (a : Nat) (w : World) (ha : a ≤ s.size) (hs : s.size ≤ 100000) {x : Nat} (hx : a + skipN (s.data.toList.drop a) = x) :
    Calls Tryz.prog 80 #[.string s, .int .i64 a] w fun e w' => e = .returned (.int .i64 x) ∧ w = w' := by
  have HX : Hid (a + skipN (s.data.toList.drop a) = x) := hid hx
  clear hx
  go_enter Tryz.func80, Tryz.ntmps80
  go_wp2
  go_loop [1] (fun i => ∃ k : Nat, k ≤ s.size ∧ i = .int .i64 k ∧ Hid (k + skipN (s.data.toList.drop k) = x)) (fun i => s.size - (intOf i).toNat)
  case atStart => exact ⟨a, by omega, rfl, HX⟩
  case round =>
    obtain ⟨k, hk, rfl, HK⟩ := hrel
    clear HX
    by_cases hlt : k < s.size
    · have hlt' : k < s.data.toList.length := by simpa using hlt
      rcases wht_ways s[k] with ⟨a1, a2⟩ | ⟨a1, a2, a3, a4, a5⟩
      · rw [skip_step hlt' a1] at HK
        have HK2 : Hid (k + 1 + skipN (s.data.toList.drop (k + 1)) = x) := hid (by rw [← HK.out]; omega)
        clear HK a1
        have a0 : (s[k].toNat = 32) ∨ (((s[k].toNat : Int) == 32) = false ∧ s[k].toNat = 9) ∨ (((s[k].toNat : Int) == 32) = false ∧ ((s[k].toNat : Int) == 9) = false ∧ s[k].toNat = 10) ∨ (((s[k].toNat : Int) == 32) = false ∧ ((s[k].toNat : Int) == 9) = false ∧ ((s[k].toNat : Int) == 10) = false ∧ s[k].toNat = 13) := by
          rcases a2 with h | h | h | h <;> simp [h]
        clear a2
        rcases a0 with q1 | ⟨q1, q2⟩ | ⟨q1, q2, q3⟩ | ⟨q1, q2, q3, q4⟩
        all_goals
          go_wp2
          go_round
          case rel => exact ⟨k + 1, by omega, by go_num, HK2⟩
          case measure => simp [intOf]; omega
      · rw [skip_halt hlt' a1, Nat.add_zero] at HK
        obtain rfl := HK.out
        have q1 : ((s[k].toNat : Int) == 32) = false := by simp; omega
        have q2 : ((s[k].toNat : Int) == 9) = false := by simp; omega
        have q3 : ((s[k].toNat : Int) == 10) = false := by simp; omega
        have q4 : ((s[k].toNat : Int) == 13) = false := by simp; omega
        clear HK a1 a2 a3 a4 a5
        go_wp2
        go_ret
        exact ⟨rfl, rfl⟩
    · have e : s.data.toList.drop k = [] := List.drop_eq_nil_of_le (by simp; omega)
      rw [e] at HK
      have e2 : Hid (x = k) := hid (by rw [← HK.out]; simp [skipN])
      clear HK e
      go_wp2
      go_ret
      exact ⟨ret_i (by rw [e2.out]), rfl⟩
end

/-! ### Lw2 -/
section
open Go.RowKit

/-- A call that returns a token and an error's number. -/
def RetT (w : World) (x : Tok × Int) (e : Ending) (w' : World) : Prop :=
  e = .returned (.tuple #[.agg #[.int .i64 x.1.k, .string ⟨x.1.t.toArray⟩, .int .i64 x.1.v.k, .int .i64 x.1.v.n, .string x.1.v.s, .int .i64 x.1.a], .int .i64 x.2]) ∧ Below w.heap.size w w'
abbrev zTok : Array Value := #[.int .i64 0, .string ⟨#[]⟩, .int .i64 0, .int .i64 0, .string ⟨#[]⟩, .int .i64 0]
theorem infoTok : (Tryz.prog.info? 117).map (·.size) = some 6 := by kernel_rfl
theorem arr_back (s : ByteArray) : (⟨s.data.toList.toArray⟩ : ByteArray) = s := ByteArray.ext (by simp)
theorem cut_arr (s : ByteArray) (n : Nat) : (⟨(s.data.toList.take n).toArray⟩ : ByteArray) = s.extract 0 n := by
  rw [← arr_back (s.extract 0 n)]
  congr 2
  simp [ByteArray.data_extract, Array.toList_extract, List.extract]
theorem retT_of {x y : Tok × Int} {e : Ending} (h : x = y) (he : e = .returned (.tuple #[.agg #[.int .i64 x.1.k, .string ⟨x.1.t.toArray⟩, .int .i64 x.1.v.k, .int .i64 x.1.v.n, .string x.1.v.s, .int .i64 x.1.a], .int .i64 x.2])) :
    e = .returned (.tuple #[.agg #[.int .i64 y.1.k, .string ⟨y.1.t.toArray⟩, .int .i64 y.1.v.k, .int .i64 y.1.v.n, .string y.1.v.s, .int .i64 y.1.a], .int .i64 y.2]) := by subst h; exact he
theorem retT_txt {k a q : Int} {s : ByteArray} {l : List UInt8} {v : V} (h : (⟨l.toArray⟩ : ByteArray) = s) :
    Ending.returned (.tuple #[.agg #[.int .i64 k, .string s, .int .i64 v.k, .int .i64 v.n, .string v.s, .int .i64 a], .int .i64 q]) = .returned (.tuple #[.agg #[.int .i64 k, .string ⟨l.toArray⟩, .int .i64 v.k, .int .i64 v.n, .string v.s, .int .i64 a], .int .i64 q]) := by rw [h]

set_option maxRecDepth 100000 in
set_option maxHeartbeats 1000000 in
theorem lex_literal (k : Int) (s : ByteArray) (a : Int) (w : World) (hs : s.size ≤ 100000) (he : ErrAt w) {x : Tok × Int} (hx : litTok k s.data.toList a = x) :
    Calls Tryz.prog 114 #[.int .i64 k, .string s, .int .i64 a] w (RetT w x) := by
  have k0 := below_one w (.cells zTok 117)
  have hz := heap_alloc_new w (.cells zTok 117)
  obtain ⟨⟨v, q⟩, hp⟩ : ∃ p, parseL s.data.toList = p := ⟨_, rfl⟩
  have H1 := fun W (h : Below w.heap.size w W) => hid (parse_lit s W hs (he.below h) hp)
  unfold litTok at hx
  rw [hp] at hx
  by_cases hq : q = 0
  · subst hq
    rw [if_pos rfl] at hx
    subst hx
    clear hp he
    go_enter Tryz.func114, Tryz.ntmps114
    go_wp2_with fail
    refine (H1 _ k0).out.mono ?_
    rintro e w1 ⟨rfl, b1⟩
    have hz1 := res_keep hz b1 (by simp)
    have k1 := k0.trans (b1.mono k0.size)
    have hz2 := res_keep hz1 (below_one w1 (.cells #[.int .i64 v.k, .int .i64 v.n, .string v.s] 67)) (by have := b1.size; simp at this; omega)
    have k2 := k1.trans ((below_one w1 (.cells #[.int .i64 v.k, .int .i64 v.n, .string v.s] 67)).mono k1.size)
    clear b1 hz1 k1 H1
    go_wp2_with (refine wpList_store_res rfl rfl rfl rfl hz2 infoTok rfl rfl ?_; intro w9 hz9 hb9)
    refine bodyPost_ret (by simp [results, Tryz.results114, go_sem, cell_res hz9]; rfl) rfl ?_
    exact ⟨retT_txt (arr_back s), k2.trans hb9⟩
  · rw [if_neg hq] at hx
    subst hx
    have bq : (q != 0) = true := by simpa using hq
    clear hp he hq
    go_enter Tryz.func114, Tryz.ntmps114
    go_wp2_with fail
    refine (H1 _ k0).out.mono ?_
    rintro e w1 ⟨rfl, b1⟩
    have hz1 := res_keep hz b1 (by simp)
    have k1 := k0.trans (b1.mono k0.size)
    have hz2 := res_keep hz1 (below_one w1 (.cells #[.int .i64 v.k, .int .i64 v.n, .string v.s] 67)) (by have := b1.size; simp at this; omega)
    have k2 := k1.trans ((below_one w1 (.cells #[.int .i64 v.k, .int .i64 v.n, .string v.s] 67)).mono k1.size)
    clear b1 hz1 k1 H1
    go_wp2_with (refine wpList_store_res rfl rfl rfl rfl hz2 infoTok rfl rfl ?_; intro w9 hz9 hb9)
    refine bodyPost_ret (by simp [results, Tryz.results114, go_sem, cell_res hz9]; rfl) rfl ?_
    exact ⟨rfl, k2.trans hb9⟩

def kwB : List ByteArray := [⟨#[99, 111, 117, 110, 116]⟩, ⟨#[100, 101, 115, 99]⟩, ⟨#[109, 97, 120]⟩, ⟨#[109, 105, 110]⟩, ⟨#[110, 111, 116]⟩, ⟨#[111, 114, 100, 101, 114]⟩, ⟨#[115, 117, 109]⟩]
def kwCells : Array Value := (kwB.map Value.string).toArray
theorem kw_lists : kwB.map (fun b => b.data.toList) = keyL7 := rfl
theorem kw_contains (x : ByteArray) {b : Bool} (h : keyL7.contains x.data.toList = b) : Lib.containsS (kwB.take 7) x = b := by
  subst h
  have e : kwB.take 7 = kwB := rfl
  rw [e, Bool.eq_iff_iff, Lib.containsS_iff, List.contains_iff_mem, ← kw_lists, List.mem_map]
  constructor
  · intro h; exact ⟨x, h, rfl⟩
  · rintro ⟨y, hy, e⟩
    have : y = x := ByteArray.ext (Array.toList_inj.1 e)
    rw [← this]; exact hy
theorem lex_keywords (w : World) : Calls Tryz.prog 143 #[] w fun e w' => e = .returned (.slice (some ⟨w.heap.size, 0, none⟩) 7 7) ∧ w.alloc (.cells kwCells 9) = w' := by
  go_enter Tryz.func143, Tryz.ntmps143
  go_wp2
  go_ret
  exact ⟨rfl, rfl⟩
theorem kw_at (w : World) (g : Nat) (hg : g = w.heap.size) (x : ByteArray) {b : Bool} (h : keyL7.contains x.data.toList = b) :
    Calls Tryz.prog 123 #[.slice (some ⟨g, 0, none⟩) 7 7, .string x] (w.alloc (.cells kwCells 9)) fun e w' => e = .returned (.bool b) ∧ w.alloc (.cells kwCells 9) = w' := by
  subst hg
  have hc : ∀ j, j < kwB.length → (w.alloc (.cells kwCells 9)).cell? ⟨w.heap.size, 0 + j, none⟩ = some (.string (kwB.getD j ByteArray.empty)) := by
    intro j hj
    rw [cell_res (heap_alloc_new w _), Nat.zero_add]
    rw [List.getD_eq_getElem?_getD, List.getElem?_eq_getElem hj]
    simp [kwCells, hj]
  refine (Tryz.slices_Contains_string w.heap.size 0 7 7 kwB x _ (by decide) (by decide) hc).mono fun e w' ⟨h1, h2⟩ => ?_
  rw [kw_contains x h] at h1
  exact ⟨h1, h2.symm⟩

set_option maxRecDepth 100000 in
set_option maxHeartbeats 1000000 in
theorem lex_word (s : ByteArray) (a : Int) (w : World) (hs : s.size ≤ 100000) {x : Tok × Int} (hx : wordTok s.data.toList a = x) :
    Calls Tryz.prog 112 #[.string s, .int .i64 a] w (RetT w x) := by
  have k0 := below_one w (.cells zTok 117)
  have hz := heap_alloc_new w (.cells zTok 117)
  have hle := wordLen_le s.data.toList
  have hll : s.data.toList.length = s.size := by simp
  rw [hll] at hle
  obtain ⟨n, hn⟩ : ∃ n, wordLen s.data.toList = n := ⟨_, rfl⟩
  have H1 := fun W => hid (lex_wordLength s W hs hn)
  have H2 := fun W => hid (lex_keywords W)
  unfold wordTok at hx
  rw [hn] at hx hle
  obtain ⟨D, hD⟩ : ∃ D : ByteArray, s.extract 0 n = D := ⟨_, rfl⟩
  have hDl : s.data.toList.take n = D.data.toList := by
    rw [← hD]; simp [ByteArray.data_extract, Array.toList_extract, List.extract]
  have hDs : D.data.toList.length = D.size := by simp
  rw [hDl, hDs] at hx
  clear hll
  obtain ⟨b, hb⟩ : ∃ b, keyL7.contains D.data.toList = b := ⟨_, rfl⟩
  have H3 := fun W g hg => hid (kw_at W g hg D hb)
  rw [hb] at hx
  clear hb hDl hDs hn
  cases b
  · rw [if_neg (by decide)] at hx
    by_cases h16 : 16 < D.size
    · rw [if_pos h16] at hx
      subst hx
      go_enter Tryz.func112, Tryz.ntmps112
      go_wp2_with fail
      refine (H1 _).out.mono ?_
      rintro e w1 ⟨rfl, rfl⟩
      go_wp2_with fail
      refine (H2 _).out.mono ?_
      rintro e w2 ⟨rfl, rfl⟩
      go_wp2_with fail
      refine (H3 (w.alloc (.cells zTok 117)) (w.heap.size + 1) (by simp)).out.mono ?_
      rintro e w3 ⟨rfl, rfl⟩
      have k1 := k0.trans ((below_one (w.alloc (.cells zTok 117)) (.cells kwCells 9)).mono k0.size)
      have hz2 := res_keep hz (below_one _ (.cells kwCells 9)) (by simp)
      clear H1 H2 H3
      go_wp2_with (refine wpList_store_res rfl rfl rfl rfl hz2 infoTok rfl rfl ?_; intro w9 hz9 hb9)
      refine bodyPost_ret (by simp [results, Tryz.results112, go_sem, cell_res hz9]; rfl) rfl ?_
      exact ⟨rfl, k1.trans hb9⟩
    · rw [if_neg h16] at hx
      subst hx
      go_enter Tryz.func112, Tryz.ntmps112
      go_wp2_with fail
      refine (H1 _).out.mono ?_
      rintro e w1 ⟨rfl, rfl⟩
      go_wp2_with fail
      refine (H2 _).out.mono ?_
      rintro e w2 ⟨rfl, rfl⟩
      go_wp2_with fail
      refine (H3 (w.alloc (.cells zTok 117)) (w.heap.size + 1) (by simp)).out.mono ?_
      rintro e w3 ⟨rfl, rfl⟩
      have k1 := k0.trans ((below_one (w.alloc (.cells zTok 117)) (.cells kwCells 9)).mono k0.size)
      have hz2 := res_keep hz (below_one _ (.cells kwCells 9)) (by simp)
      clear H1 H2 H3
      go_wp2_with (refine wpList_store_res rfl rfl rfl rfl hz2 infoTok rfl rfl ?_; intro w9 hz9 hb9)
      refine bodyPost_ret (by simp [results, Tryz.results112, go_sem, cell_res hz9]; rfl) rfl ?_
      exact ⟨retT_txt (v := V0) (arr_back D), k1.trans hb9⟩
  · rw [if_pos rfl] at hx
    subst hx
    go_enter Tryz.func112, Tryz.ntmps112
    go_wp2_with fail
    refine (H1 _).out.mono ?_
    rintro e w1 ⟨rfl, rfl⟩
    go_wp2_with fail
    refine (H2 _).out.mono ?_
    rintro e w2 ⟨rfl, rfl⟩
    go_wp2_with fail
    refine (H3 (w.alloc (.cells zTok 117)) (w.heap.size + 1) (by simp)).out.mono ?_
    rintro e w3 ⟨rfl, rfl⟩
    have k1 := k0.trans ((below_one (w.alloc (.cells zTok 117)) (.cells kwCells 9)).mono k0.size)
    have hz2 := res_keep hz (below_one _ (.cells kwCells 9)) (by simp)
    clear H1 H2 H3
    go_wp2_with (refine wpList_store_res rfl rfl rfl rfl hz2 infoTok rfl rfl ?_; intro w9 hz9 hb9)
    refine bodyPost_ret (by simp [results, Tryz.results112, go_sem, cell_res hz9]; rfl) rfl ?_
    exact ⟨retT_txt (v := V0) (arr_back D), k1.trans hb9⟩
end

/-! ### SymIx -/
section
open Go.RowKit
abbrev symCells : Array Value := #[.string ⟨#[58, 45]⟩, .string ⟨#[33, 61]⟩, .string ⟨#[60, 61]⟩, .string ⟨#[62, 61]⟩, .string ⟨#[40]⟩, .string ⟨#[41]⟩, .string ⟨#[44]⟩, .string ⟨#[59]⟩, .string ⟨#[124]⟩, .string ⟨#[61]⟩, .string ⟨#[60]⟩, .string ⟨#[62]⟩]
theorem sym_ix0 (w : World) : (Instr.index 170 (.agg symCells) (.int .i64 0)).run Tryz.prog w = .ok (.string ⟨#[58, 45]⟩) w := by
  simp [Instr.index, run_underlying Tryz.underlying170, asIntOf, part, go_sem, Tryz.isAgg9, Tryz.sizeOf9]
theorem sym_ix1 (w : World) : (Instr.index 170 (.agg symCells) (.int .i64 1)).run Tryz.prog w = .ok (.string ⟨#[33, 61]⟩) w := by
  simp [Instr.index, run_underlying Tryz.underlying170, asIntOf, part, go_sem, Tryz.isAgg9, Tryz.sizeOf9]
theorem sym_ix2 (w : World) : (Instr.index 170 (.agg symCells) (.int .i64 2)).run Tryz.prog w = .ok (.string ⟨#[60, 61]⟩) w := by
  simp [Instr.index, run_underlying Tryz.underlying170, asIntOf, part, go_sem, Tryz.isAgg9, Tryz.sizeOf9]
theorem sym_ix3 (w : World) : (Instr.index 170 (.agg symCells) (.int .i64 3)).run Tryz.prog w = .ok (.string ⟨#[62, 61]⟩) w := by
  simp [Instr.index, run_underlying Tryz.underlying170, asIntOf, part, go_sem, Tryz.isAgg9, Tryz.sizeOf9]
theorem sym_ix4 (w : World) : (Instr.index 170 (.agg symCells) (.int .i64 4)).run Tryz.prog w = .ok (.string ⟨#[40]⟩) w := by
  simp [Instr.index, run_underlying Tryz.underlying170, asIntOf, part, go_sem, Tryz.isAgg9, Tryz.sizeOf9]
theorem sym_ix5 (w : World) : (Instr.index 170 (.agg symCells) (.int .i64 5)).run Tryz.prog w = .ok (.string ⟨#[41]⟩) w := by
  simp [Instr.index, run_underlying Tryz.underlying170, asIntOf, part, go_sem, Tryz.isAgg9, Tryz.sizeOf9]
theorem sym_ix6 (w : World) : (Instr.index 170 (.agg symCells) (.int .i64 6)).run Tryz.prog w = .ok (.string ⟨#[44]⟩) w := by
  simp [Instr.index, run_underlying Tryz.underlying170, asIntOf, part, go_sem, Tryz.isAgg9, Tryz.sizeOf9]
theorem sym_ix7 (w : World) : (Instr.index 170 (.agg symCells) (.int .i64 7)).run Tryz.prog w = .ok (.string ⟨#[59]⟩) w := by
  simp [Instr.index, run_underlying Tryz.underlying170, asIntOf, part, go_sem, Tryz.isAgg9, Tryz.sizeOf9]
theorem sym_ix8 (w : World) : (Instr.index 170 (.agg symCells) (.int .i64 8)).run Tryz.prog w = .ok (.string ⟨#[124]⟩) w := by
  simp [Instr.index, run_underlying Tryz.underlying170, asIntOf, part, go_sem, Tryz.isAgg9, Tryz.sizeOf9]
theorem sym_ix9 (w : World) : (Instr.index 170 (.agg symCells) (.int .i64 9)).run Tryz.prog w = .ok (.string ⟨#[61]⟩) w := by
  simp [Instr.index, run_underlying Tryz.underlying170, asIntOf, part, go_sem, Tryz.isAgg9, Tryz.sizeOf9]
theorem sym_ix10 (w : World) : (Instr.index 170 (.agg symCells) (.int .i64 10)).run Tryz.prog w = .ok (.string ⟨#[60]⟩) w := by
  simp [Instr.index, run_underlying Tryz.underlying170, asIntOf, part, go_sem, Tryz.isAgg9, Tryz.sizeOf9]
theorem sym_ix11 (w : World) : (Instr.index 170 (.agg symCells) (.int .i64 11)).run Tryz.prog w = .ok (.string ⟨#[62]⟩) w := by
  simp [Instr.index, run_underlying Tryz.underlying170, asIntOf, part, go_sem, Tryz.isAgg9, Tryz.sizeOf9]
end

/-! ### LwS -/
section
open Go.RowKit

/-- The symbols, as the package's variable holds them. -/
def symB : List ByteArray := [⟨#[58, 45]⟩, ⟨#[33, 61]⟩, ⟨#[60, 61]⟩, ⟨#[62, 61]⟩, ⟨#[40]⟩, ⟨#[41]⟩, ⟨#[44]⟩, ⟨#[59]⟩, ⟨#[124]⟩, ⟨#[61]⟩, ⟨#[60]⟩, ⟨#[62]⟩]
theorem symB_len : symB.length = 12 := rfl
theorem sym_lists : symB.map (fun b => b.data.toList) = symL := rfl
theorem sym_get {k : Nat} (h : k < 12) (h' : k < symL.length) : symL[k]'h' = (symB[k]'h).data.toList := by
  have : ∀ k : Fin 12, symL[k.val]'(k.isLt) = (symB[k.val]'(k.isLt)).data.toList := by decide
  exact this ⟨k, h⟩
/-- The variable lexer.symbols holds them. -/
def SymAt (w : World) : Prop := ∀ j (h : j < 12), w.cell? ⟨3, j, none⟩ = some (.string (symB[j]'h))
theorem SymAt.below {w w' : World} (h : SymAt w) (hb : Below w.heap.size w w') : SymAt w' := fun j hj => cell_keep hb (h j hj)
/-- What chapter 18 asks of the world. -/
structure EnvL (w : World) : Prop where
  env : Env w
  sym : SymAt w
theorem EnvL.below {w w' : World} (h : EnvL w) (hb : Below w.heap.size w w') : EnvL w' := ⟨h.env.below hb, h.sym.below hb⟩

theorem num_ways (s : ByteArray) (h0 : 0 < s.size) {b : Bool} (hb : numB s.data.toList = b) :
    (b = true ∧ digB s[0] = true) ∨ (∃ h1 : 1 < s.size, b = true ∧ digB s[0] = false ∧ s[0].toNat = 45 ∧ digB s[1] = true) ∨ (b = false ∧ digB s[0] = false ∧ s[0].toNat ≠ 45) ∨ (b = false ∧ digB s[0] = false ∧ s[0].toNat = 45 ∧ s.size ≤ 1) ∨ (∃ h1 : 1 < s.size, b = false ∧ digB s[0] = false ∧ s[0].toNat = 45 ∧ digB s[1] = false) := by
  subst hb
  unfold numB
  have hl : s.data.toList.length = s.size := by simp
  rw [getD_of h0, hl]
  cases hd : digB s[0]
  · by_cases h45 : s[0].toNat = 45
    · have e : (s[0] == 45) = true := by have : s[0] = 45 := UInt8.toNat.inj h45; rw [this]; rfl
      by_cases h1 : 1 < s.size
      · rw [getD_of h1]
        cases hd1 : digB s[1]
        · right; right; right; right; exact ⟨h1, by simp, rfl, h45, hd1⟩
        · right; left; exact ⟨h1, by simp [e, h1], rfl, h45, hd1⟩
      · right; right; right; left; exact ⟨by simp [h1], rfl, h45, by omega⟩
    · have e : (s[0] == 45) = false := by simpa using fun e => h45 (congrArg UInt8.toNat e)
      right; right; left; exact ⟨by simp [e], rfl, h45⟩
  · left; exact ⟨by simp, rfl⟩

theorem symTok_at {r : List UInt8} {a : Int} : symTok r a = match symL.find? (fun y => y.isPrefixOf r) with
  | some y => (⟨4, y, V0, a⟩, 0)
  | none => (T0, 15) := rfl
theorem find_found {r : List UInt8} {k : Nat} (hk : k < 12) (hn : ∀ j (h : j < k), (symB[j]'(by rw [symB_len]; omega)).data.toList.isPrefixOf r = false) (hy : (symB[k]'hk).data.toList.isPrefixOf r = true) (a : Int) :
    symTok r a = (⟨4, (symB[k]'hk).data.toList, V0, a⟩, 0) := by
  have h : symL.find? (fun y => y.isPrefixOf r) = some (symB[k]'hk).data.toList := by
    rw [List.find?_eq_some_iff_getElem]
    refine ⟨hy, k, hk, sym_get hk _, fun j hj => ?_⟩
    have hj' : j < 12 := by omega
    have e : (symL[j]'(show j < symL.length from hj')).isPrefixOf r = false := by rw [sym_get hj' _]; exact hn j hj
    simpa using e
  rw [symTok_at, h]
theorem find_none {r : List UInt8} (hn : ∀ j (h : j < 12), (symB[j]'h).data.toList.isPrefixOf r = false) (a : Int) : symTok r a = (T0, 15) := by
  have h : symL.find? (fun y => y.isPrefixOf r) = none := by
    rw [List.find?_eq_none]
    intro y hy
    obtain ⟨j, hj, rfl⟩ := List.getElem_of_mem hy
    have hj' : j < 12 := hj
    rw [sym_get hj' _, hn j hj']; decide
  rw [symTok_at, h]
theorem hasP (s p : ByteArray) (w : World) {b : Bool} (h : p.data.toList.isPrefixOf s.data.toList = b) :
    Calls Tryz.prog 110 #[.string s, .string p] w fun e w' => e = .returned (.bool b) ∧ w = w' := by
  refine (Tryz.strings_HasPrefix s p w).mono fun e w' ⟨h1, h2⟩ => ⟨?_, h2.symm⟩
  rw [h1]
  exact ret_b h
theorem prefix_lib (r y : List UInt8) : Lib.hasPrefix r y = y.isPrefixOf r := rfl

end
end Go.Proofs.YtjhnopnppimnhaaGreatDoor
