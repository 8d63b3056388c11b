/-
  WALKS: the document's digits, Text (layer 1).
-/
import Derived.Test.YtkoajdbijlpgaaaDoorRt1
namespace Go.Proofs.YtkoajdbijlpgaaaDoor
open Go.RowKit

theorem dec_rec (u : Nat) (h : ¬ u < 10) : Lib.decDigits u = Lib.decDigits (u / 10) ++ Lib.decDigits (u % 10) := by
  rw [Lib.decDigits, dif_neg h, Lib.decDigits_one (Nat.mod_lt _ (by omega))]

set_option maxRecDepth 100000 in
set_option maxHeartbeats 1000000 in
theorem ref_digit (n : Int) (h0 : 0 ≤ n) (h1 : n < 10) (w : World) {x : List UInt8} (hx : Lib.decDigits n.toNat = x) :
    Calls Tryd.prog 75 #[.int .u64 n] w fun e w' => e = .returned (.string ⟨x.toArray⟩) ∧ Below w.heap.size w w' := by
  rw [Lib.decDigits_one (by omega)] at hx
  obtain ⟨c, hc⟩ : ∃ c : UInt8, UInt8.ofNat (48 + n.toNat) = c := ⟨_, rfl⟩
  rw [hc] at hx
  subst hx
  have hl := fun W => lit1 W c (48 + n) (by rw [← hc]; simp; omega)
  clear hc
  go_enter Tryd.func75, Tryd.ntmps75
  go_wp2
  go_ret
  exact ⟨rfl, below_one _ _⟩

theorem dec_len : ∀ (k u : Nat), u < 10 ^ (k + 1) → (Lib.decDigits u).length ≤ k + 1
  | 0, u, h => by rw [Lib.decDigits_one (by simpa using h)]; simp
  | k + 1, u, h => by
    by_cases h1 : u < 10
    · rw [Lib.decDigits_one h1]; simp
    · rw [dec_rec u h1, Lib.decDigits_one (i := u % 10) (Nat.mod_lt _ (by omega)), List.length_append]
      have := dec_len k (u / 10) (by rw [Nat.pow_succ] at h; omega)
      simp; omega
theorem dec_len20 (u : Nat) (h : u ≤ 18446744073709551615) : (Lib.decDigits u).length ≤ 20 := dec_len 19 u (by omega)

set_option maxRecDepth 100000 in
set_option maxHeartbeats 1000000 in
theorem ref_digits : ∀ (m : Nat) (n : Int), 0 ≤ n → n ≤ m → n ≤ 18446744073709551615 → ∀ (w : World) {x : List UInt8}, Lib.decDigits n.toNat = x →
    Calls Tryd.prog 75 #[.int .u64 n] w fun e w' => e = .returned (.string ⟨x.toArray⟩) ∧ Below w.heap.size w w' := by
  intro m
  induction m with
  | zero =>
    intro n h0 h1 h2 w x hx
    exact ref_digit n h0 (by omega) w hx
  | succ m ih =>
    intro n h0 h1 h2 w x hx
    by_cases h : n < 10
    · exact ref_digit n h0 h w hx
    · have hd : Lib.decDigits (n / 10).toNat ++ Lib.decDigits (n % 10).toNat = x := by
        rw [← hx, dec_rec n.toNat (by omega)]
        congr 2 <;> omega
      have H1 := fun W => hid (ih (n / 10) (by omega) (by omega) (by omega) W rfl)
      have H2 := fun W => hid (ref_digit (n % 10) (by omega) (by omega) W rfl)
      have l1 := dec_len20 (n / 10).toNat (by omega)
      have l2 := dec_len20 (n % 10).toNat (by omega)
      clear ih hx h1
      generalize Lib.decDigits (n / 10).toNat = p at *
      generalize Lib.decDigits (n % 10).toNat = q at *
      have HD := hid hd
      clear hd
      go_enter Tryd.func75, Tryd.ntmps75
      go_wp2_with fail
      refine (H1 _).out.mono ?_
      rintro e w1 ⟨rfl, k1⟩
      go_wp2_with fail
      refine (H2 _).out.mono ?_
      rintro e w2 ⟨rfl, k2⟩
      have k2' := k1.trans (k2.mono k1.size)
      clear k1 k2 H1 H2
      go_wp2
      go_ret
      exact ⟨ret_cat HD.out, k2'⟩

theorem itoa_cases (n : Int) : (n < 0 → Lib.itoa n = 45 :: Lib.decDigits (-n).toNat) ∧ (¬ n < 0 → Lib.itoa n = Lib.decDigits n.toNat) := by
  unfold Lib.itoa
  refine ⟨fun h => by rw [if_pos h]; congr 2; omega, fun h => by rw [if_neg h]⟩

theorem wrap_neg (n : Int) (h : I64 n) (h0 : n < 0) : IntKind.u64.wrap (-IntKind.u64.wrap n) = - n := by
  unfold I64 at h
  simp [IntKind.wrap, IntKind.signed, IntKind.bits]
  omega
theorem wrap_pos (n : Int) (h : I64 n) (h0 : ¬ n < 0) : IntKind.u64.wrap n = n := by
  unfold I64 at h
  simp [IntKind.wrap, IntKind.signed, IntKind.bits]
  omega

set_option maxRecDepth 100000 in
set_option maxHeartbeats 1000000 in
theorem ref_text (v : V) (w : World) (hn : I64 v.n) (hs : v.s.size ≤ 100000) (hv : v.valid = true) {x : List UInt8} (hx : textL v = x) :
    Calls Tryd.prog 49 #[.agg #[.int .i64 v.k, .int .i64 v.n, .string v.s]] w fun e w' => e = .returned (.string ⟨x.toArray⟩) ∧ Below w.heap.size w w' := by
  obtain ⟨k, n, s⟩ := v
  by_cases h1 : k = 1
  · have e := textL_int hv h1
    rw [e] at hx
    subst h1
    by_cases h0 : n < 0
    · rw [(itoa_cases n).1 h0] at hx
      have hw := wrap_neg n hn h0
      have H1 := fun W => hid (ref_digits (-n).toNat (-n) (by omega) (by omega) (by unfold I64 at hn; simp at hn; omega) W rfl)
      have l1 := dec_len20 (-n).toNat (by unfold I64 at hn; simp at hn; omega)
      clear hv e
      generalize Lib.decDigits (-n).toNat = p at *
      subst hx
      go_enter Tryd.func49, Tryd.ntmps49
      go_wp2_with fail
      refine (H1 _).out.mono ?_
      rintro e w1 ⟨rfl, k1⟩
      have k2 := (below_one w _).trans (k1.mono (by simp))
      clear k1 H1
      go_wp2
      go_ret
      exact ⟨ret_cat (a := [45]) rfl, k2⟩
    · rw [(itoa_cases n).2 h0] at hx
      have hw := wrap_pos n hn h0
      have H1 := fun W => hid (ref_digits n.toNat n (by omega) (by omega) (by unfold I64 at hn; simp at hn; omega) W hx)
      clear hv e
      have hn0 : ¬ n < 0 := h0
      go_enter Tryd.func49, Tryd.ntmps49
      go_wp2_with fail
      refine (H1 _).out.mono ?_
      rintro e w1 ⟨rfl, k1⟩
      have k2 := (below_one w _).trans (k1.mono (by simp))
      clear k1 H1
      go_wp2
      go_ret
      exact ⟨rfl, k2⟩
  · have e := textL_str hv h1
    rw [e] at hx
    have b1 : (k == 1) = false := by simpa using h1
    have HX : Hid (34 :: ((s.data.toList.flatMap spell) ++ [34]) = x) := hid hx
    clear hv e hx h1
    have k0 := below_one w (.cells #[.int .i64 k, .int .i64 n, .string s] 66)
    have hz0 := heap_alloc_new w (.cells #[.int .i64 k, .int .i64 n, .string s] 66)
    go_enter Tryd.func49, Tryd.ntmps49
    go_wp2
    go_loopw [3, 4] (fun v i wr => ∃ (j : Nat) (l : List UInt8), j ≤ s.size ∧ i = .int .i64 j ∧ v = .string ⟨l.toArray⟩ ∧ l.length ≤ 4 * j + 1 ∧ Hid (l = 34 :: (s.data.toList.take j).flatMap spell) ∧ Below (w.heap.size + 1) (w.alloc (.cells #[.int .i64 k, .int .i64 n, .string s] 66)) wr) (fun _ i _ => s.size - (intOf i).toNat)
    case atStart => exact ⟨0, [34], by omega, rfl, rfl, by simp, hid (by simp), Below.refl _ _⟩
    case round =>
      obtain ⟨j, l, hk, rfl, rfl, hlen, HL, hbel⟩ := hrel
      have hz := res_keep hz0 hbel (by omega)
      have c2 := cell_res hz 2
      have c2' : wr.cell? ⟨w.heap.size, 2, none⟩ = some (.string s) := c2
      have hbw : Below w.heap.size w wr := k0.trans (hbel.mono (by omega))
      have hsz : w.heap.size < wr.heap.size := by have := hbel.size; simp at this; omega
      clear c2 hz0
      by_cases hlt : j < s.size
      · have hsl : (34 :: (s.data.toList.take (j + 1)).flatMap spell) = (34 :: (s.data.toList.take j).flatMap spell) ++ spell s[j] := by
          rw [flatMap_take_succ _ _ _ (by simpa using hlt)]; rfl
        have HS : Hid ((34 :: (s.data.toList.take (j + 1)).flatMap spell) = l ++ spell s[j]) := by rw [HL.out]; exact hid hsl
        have H1 := fun W => hid (ref_char s[j] W rfl)
        have ls := spell_length s[j]
        generalize spell s[j] = p at *
        clear hsl HL HX
        go_wp2_with fail
        refine (H1 _).out.mono ?_
        rintro e w1 ⟨rfl, k1⟩
        have hbel1 := hbel.trans (k1.mono (by omega))
        clear k1 H1
        go_wp2
        go_roundw
        case rel => exact ⟨j + 1, l ++ p, by omega, by go_num, str_cat l p, by simp; omega, hid HS.out.symm, hbel1⟩
        case measure => simp [intOf]; omega
      · have e : s.data.toList.take j = s.data.toList := List.take_of_length_le (by simp; omega)
        rw [e] at HL
        have HF : Hid (l ++ [34] = x) := hid (by rw [HL.out, ← HX.out]; simp)
        clear HL HX e
        go_wp2
        go_ret
        exact ⟨ret_cat (b := [34]) HF.out, hbw⟩
end Go.Proofs.YtkoajdbijlpgaaaDoor
