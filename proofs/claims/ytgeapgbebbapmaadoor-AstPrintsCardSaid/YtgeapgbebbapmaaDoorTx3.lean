/-
  WALK: the document's join (layer 19).
-/
import Derived.Test.YtgeapgbebbapmaaDoorTx2
import Derived.Test.YtgeapgbebbapmaaDoorPrt
namespace Go.Proofs.YtgeapgbebbapmaaDoor
open Go.RowKit

theorem join_take (s : Str) {l : List Str} {k : Nat} (h : k < l.length) : joinS s (l.take (k + 1)) = joinS s (l.take k) ++ (if k = 0 then l[k] else s ++ l[k]) := by
  have := join_succ (fun x : Str => x) s h
  simpa using this
theorem join_le (s : Str) (m : Nat) (l : List Str) (h : ∀ x ∈ l, x.length ≤ m) : (joinS s l).length ≤ l.length * (s.length + m) := by
  have := join_len (fun x : Str => x) s m l h
  rwa [List.map_id'] at this

set_option maxRecDepth 100000 in
set_option maxHeartbeats 2000000 in
theorem ref_join (A : Option Addr) (c : Nat) (l : List Str) (X : ByteArray) (w : World) (hl : NmsAt w A l) (hn : l.length ≤ 100) (hv : ∀ v ∈ l, v.length ≤ 10000) {s : Str} (hX : X.data.toList = s) (hs : X.size ≤ 10) {x : Str} (hx : joinS s l = x) :
    Calls Tryd.prog 38 #[.slice A l.length c, .string X] w fun e w' => e = .returned (.string ⟨x.toArray⟩) ∧ Below w.heap.size w w' := by
  have HL := hid hl
  have HV := hid hv
  have hsl : s.length = X.size := by rw [← hX]; simp
  have HJ := hid (fun k (h : k < l.length) => join_take s h)
  have HLE := hid (fun k (_ : k ≤ l.length) => join_le s 10000 (l.take k) fun v h => hv v (List.mem_of_mem_take h))
  have HX := hid hx
  have HXs := hid hX
  have HSL := hid hsl
  clear hl hv hx hX hsl
  go_enter Tryd.func38, Tryd.ntmps38
  go_wp2
  go_loopw [6, 5] (fun i u wr => ∃ k : Nat, k ≤ l.length ∧ i = .int .i64 k ∧ u = .string ⟨(joinS s (l.take k)).toArray⟩ ∧ wr = w) (fun i _ _ => l.length - (intOf i).toNat)
  case atStart => exact ⟨0, by omega, rfl, rfl, rfl⟩
  case round =>
    obtain ⟨k, hk, rfl, rfl, rfl⟩ := hrel
    by_cases hlt : k < l.length
    · obtain ⟨b, o, rfl, hc⟩ := HL.out (by omega)
      have c0 := hc k hlt
      have hj := HJ.out k hlt
      have hle := HLE.out k hk
      have hvk := HV.out _ (List.getElem_mem hlt)
      rw [HSL.out] at hle
      have hm : (l.take k).length = k := by simp only [List.length_take]; omega
      rw [hm] at hle
      have hm2 : k * (X.size + 10000) ≤ k * 10010 := Nat.mul_le_mul_left _ (by omega)
      obtain ⟨v, ev⟩ : ∃ v, l[k] = v := ⟨_, rfl⟩
      rw [ev] at c0 hj hvk
      obtain ⟨cur, ec⟩ : ∃ v, joinS s (l.take k) = v := ⟨_, rfl⟩
      rw [ec] at hj hle ⊢
      obtain ⟨Z, hZ, hZd⟩ : ∃ Y : ByteArray, (⟨v.toArray⟩ : ByteArray) = Y ∧ Y.data.toList = v := ⟨_, rfl, rfl⟩
      obtain ⟨S, hS, hSd⟩ : ∃ Y : ByteArray, (⟨cur.toArray⟩ : ByteArray) = Y ∧ Y.data.toList = cur := ⟨_, rfl, rfl⟩
      have hZb : Z.size ≤ 10000 := by
        have h1 : Z.size = v.length := by rw [← hZd]; simp
        omega
      have hSb : S.size ≤ 1100000 := by
        have h1 : S.size = cur.length := by rw [← hSd]; simp
        omega
      rw [hZ] at c0
      rw [hS]
      have HSd := hid hSd
      have HZd := hid hZd
      by_cases hk0 : k = 0
      · have HN : Hid (cur ++ v = joinS s (l.take (k + 1))) := hid (by rw [hj, if_pos hk0])
        have hk1 : k ≤ 0 := by omega
        clear hj hle hm hm2 hvk ec ev hc hZ hZd hS hSd hk0
        go_wp2
        go_roundw
        case rel => exact ⟨k + 1, by omega, by go_num, by rw [← HN.out]; exact str_of (cat_of HSd.out HZd.out), trivial⟩
        case measure => simp [intOf]; omega
      · have HN : Hid ((cur ++ s) ++ v = joinS s (l.take (k + 1))) := hid (by rw [hj, if_neg hk0, List.append_assoc])
        have hk1 : 0 < k := by omega
        clear hj hle hm hm2 hvk ec ev hc hZ hZd hS hSd hk0
        go_wp2
        go_roundw
        case rel => exact ⟨k + 1, by omega, by go_num, by rw [← HN.out]; exact str_of (cat_of (cat_of HSd.out HXs.out) HZd.out), trivial⟩
        case measure => simp [intOf]; omega
    · have hend : l.take k = l := List.take_of_length_le (by omega)
      rw [hend, HX.out]
      clear hend HX
      go_wp2
      go_ret
      exact ⟨rfl, Below.refl _ _⟩
end Go.Proofs.YtgeapgbebbapmaaDoor
