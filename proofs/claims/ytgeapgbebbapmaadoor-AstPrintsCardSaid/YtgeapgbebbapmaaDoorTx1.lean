/-
  WALKS: the document's number, Literal (layer 19).
-/
import Derived.Test.YtgeapgbebbapmaaDoorLits
import Derived.Test.YtgeapgbebbapmaaDoorTxt
import Derived.Lib.ItoaLen
import Derived.IntWalk
namespace Go.Proofs.YtgeapgbebbapmaaDoor
open Go.RowKit

theorem dec_len19 : ∀ (k u : Nat), u < 10 ^ (k + 1) → (Lib.decDigits u).length ≤ k + 1
  | 0, u, h => by rw [Lib.decDigits_one (by simpa using h)]; simp
  | k + 1, u, h => by
    by_cases h1 : u < 10
    · rw [Lib.decDigits_one h1]; simp
    · rw [Lib.decDigits, dif_neg h1, List.length_append]
      have := dec_len19 k (u / 10) (by rw [Nat.pow_succ] at h; omega)
      simp; omega
/-- What is still to be written ahead of s. -/
def digP (m k : Nat) (s : Str) : Prop := (if k = 0 then [] else Lib.decDigits k) ++ s = Lib.decDigits m
theorem digP_first (m : Nat) : digP m (m / 10) [UInt8.ofNat (48 + m % 10)] := by
  unfold digP
  by_cases h : m < 10
  · rw [if_pos (by omega), Lib.decDigits_one h, Nat.mod_eq_of_lt h]; rfl
  · rw [if_neg (by omega)]
    conv => rhs; rw [Lib.decDigits, dif_neg h]
theorem digP_start {m : Nat} (h : 0 < m) : digP m m [] := by
  unfold digP
  rw [if_neg (by omega), List.append_nil]
theorem digP_step {m k : Nat} {s : Str} (h : digP m k s) (hk : 0 < k) : digP m (k / 10) (UInt8.ofNat (48 + k % 10) :: s) := by
  unfold digP at h ⊢
  rw [if_neg (by omega)] at h
  rw [← h]
  have := digP_first k
  unfold digP at this
  rw [← this, List.append_assoc]; rfl
theorem digP_end {m : Nat} {s : Str} (h : digP m 0 s) : s = Lib.decDigits m := by
  unfold digP at h
  simpa using h
theorem digP_len {m k : Nat} {s : Str} (hm : m ≤ 9223372036854775808) (h : digP m k s) : s.length ≤ 19 := by
  unfold digP at h
  have := congrArg List.length h
  rw [List.length_append] at this
  have := dec_len19 18 m (by omega)
  omega

set_option maxRecDepth 100000 in
set_option maxHeartbeats 2000000 in
theorem ref_number (n : Int) (hn : I64 n) (w : World) {x : Str} (hx : Lib.itoa n = x) :
    Calls Tryd.prog 79 #[.int .i64 n] w fun e w' => e = .returned (.string ⟨x.toArray⟩) ∧ Below w.heap.size w w' := by
  unfold I64 at hn
  by_cases h0 : n < 0
  · obtain ⟨m, rfl⟩ : ∃ m : Nat, n = -(m : Int) := ⟨n.natAbs, by omega⟩
    have hm : m ≤ 9223372036854775808 := by omega
    have hmp : 0 < m := by omega
    have HX : Hid (45 :: Lib.decDigits m = x) := hid (by rw [← hx]; unfold Lib.itoa; rw [if_pos h0]; congr 2; omega)
    clear hx hn
    go_enter Tryd.func79, Tryd.ntmps79
    go_wp2
    go_loopw [0, 3] (fun i s wr => ∃ (k : Nat) (l : Str), k ≤ m ∧ i = .int .i64 (-(k : Int)) ∧ s = .string ⟨l.toArray⟩ ∧ Hid (digP m k l) ∧ Hid (Below w.heap.size w wr)) (fun i _ _ => (-(intOf i)).toNat)
    case atStart => exact ⟨m, [], by omega, rfl, rfl, hid (digP_start hmp), hid (Below.refl _ _)⟩
    case round =>
      obtain ⟨k, l, hk, rfl, rfl, HD, HB⟩ := hrel
      by_cases hlt : 0 < k
      · have hneg : -(k : Int) < 0 := by omega
        have hst := digP_step HD.out hlt
        have hll := digP_len hm HD.out
        obtain ⟨S, hS, hSd⟩ : ∃ Y : ByteArray, (⟨l.toArray⟩ : ByteArray) = Y ∧ Y.data.toList = l := ⟨_, rfl, rfl⟩
        have hSb : S.size ≤ 19 := by
          have h1 : S.size = l.length := by rw [← hSd]; simp
          omega
        obtain ⟨c, hc⟩ : ∃ c : UInt8, UInt8.ofNat (48 + k % 10) = c := ⟨_, rfl⟩
        have hcn : (48 + (k : Int) % 10) = c.toNat := by rw [← hc]; simp; omega
        have hl1 := fun W => lit1 W c (48 + (k : Int) % 10) hcn
        have tm : (-(k : Int)).tmod 10 = -((k : Int) % 10) := by rw [Int.neg_tmod]; congr 1
        have td : (-(k : Int)).tdiv 10 = -((k : Int) / 10) := by rw [Int.neg_tdiv]; congr 1
        rw [hc] at hst
        rw [hS]
        have i1 : 0 ≤ (k : Int) % 10 := by omega
        have i2 : (k : Int) % 10 < 10 := by omega
        have HS := hid hS
        have Hst := hid hst
        clear hc hcn hst hS hSd
        go_wp2
        go_roundw
        case rel => exact ⟨k / 10, c :: l, by omega, by congr 1, by rw [← HS.out]; exact str_cat [c] l, Hst, hid (HB.out.trans ((below_one wr _).mono HB.out.size))⟩
        case measure => simp [intOf]; omega
      · obtain rfl : k = 0 := by omega
        have hl := digP_end HD.out
        have hll := digP_len hm HD.out
        have HX2 : Hid ([45] ++ l = x) := hid (by rw [hl]; exact HX.out)
        have hbb := HB.out
        obtain ⟨S, hS, hSd⟩ : ∃ Y : ByteArray, (⟨l.toArray⟩ : ByteArray) = Y ∧ Y.data.toList = l := ⟨_, rfl, rfl⟩
        have hSb : S.size ≤ 19 := by
          have h1 : S.size = l.length := by rw [← hSd]; simp
          omega
        rw [hS]
        have HS := hid hS
        clear hl HD HX hS hSd hll
        go_wp2
        go_ret
        exact ⟨by rw [← HS.out]; exact ret_cat HX2.out, hbb⟩
  · obtain ⟨m, rfl⟩ : ∃ m : Nat, n = (m : Int) := ⟨n.natAbs, by omega⟩
    have hm : m ≤ 9223372036854775808 := by omega
    have HX : Hid (Lib.decDigits m = x) := hid (by rw [← hx]; unfold Lib.itoa; rw [if_neg h0]; congr 1)
    obtain ⟨c, hc⟩ : ∃ c : UInt8, UInt8.ofNat (48 + m % 10) = c := ⟨_, rfl⟩
    have hcn : (48 + (m : Int) % 10) = c.toNat := by rw [← hc]; simp; omega
    have hl0 := fun W => lit1 W c (48 + (m : Int) % 10) hcn
    have i1 : 0 ≤ (m : Int) % 10 := by omega
    have i2 : (m : Int) % 10 < 10 := by omega
    have hfirst := digP_first m
    rw [hc] at hfirst
    have HF := hid hfirst
    clear hx hn hc hcn hfirst
    go_enter Tryd.func79, Tryd.ntmps79
    go_wp2
    clear hl0 i1 i2
    go_loopw [0, 4] (fun i s wr => ∃ (k : Nat) (l : Str), k ≤ m ∧ i = .int .i64 (k : Int) ∧ s = .string ⟨l.toArray⟩ ∧ Hid (digP m k l) ∧ Hid (Below w.heap.size w wr)) (fun i _ _ => (intOf i).toNat)
    case atStart => exact ⟨m / 10, [c], by omega, by congr 1, rfl, HF, hid (below_one _ _)⟩
    case round =>
      clear HF
      obtain ⟨k, l, hk, rfl, rfl, HD, HB⟩ := hrel
      by_cases hlt : 0 < k
      · have hst := digP_step HD.out hlt
        have hll := digP_len hm HD.out
        obtain ⟨S, hS, hSd⟩ : ∃ Y : ByteArray, (⟨l.toArray⟩ : ByteArray) = Y ∧ Y.data.toList = l := ⟨_, rfl, rfl⟩
        have hSb : S.size ≤ 19 := by
          have h1 : S.size = l.length := by rw [← hSd]; simp
          omega
        obtain ⟨c, hc⟩ : ∃ c : UInt8, UInt8.ofNat (48 + k % 10) = c := ⟨_, rfl⟩
        have hcn : (48 + (k : Int) % 10) = c.toNat := by rw [← hc]; simp; omega
        have hl1 := fun W => lit1 W c (48 + (k : Int) % 10) hcn
        rw [hc] at hst
        rw [hS]
        have i1 : 0 ≤ (k : Int) % 10 := by omega
        have i2 : (k : Int) % 10 < 10 := by omega
        have HS := hid hS
        have Hst := hid hst
        clear hc hcn hst hS hSd
        go_wp2
        go_roundw
        case rel => exact ⟨k / 10, c :: l, by omega, by congr 1, by rw [← HS.out]; exact str_cat [c] l, Hst, hid (HB.out.trans ((below_one wr _).mono HB.out.size))⟩
        case measure => simp [intOf]; omega
      · obtain rfl : k = 0 := by omega
        have hl := digP_end HD.out
        have HX2 : Hid (l = x) := hid (by rw [hl]; exact HX.out)
        have hbb := HB.out
        clear hl HD HX
        go_wp2
        go_ret
        exact ⟨ret_s HX2.out, hbb⟩
end Go.Proofs.YtgeapgbebbapmaaDoor
