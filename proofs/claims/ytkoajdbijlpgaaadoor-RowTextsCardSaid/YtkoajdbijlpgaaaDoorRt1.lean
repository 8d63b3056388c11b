/-
  WALKS: the document's hex, char, digits, Text (layer 1).
-/
import Derived.Test.YtkoajdbijlpgaaaDoorPstr
import Derived.Test.YtkoajdbijlpgaaaDoorKit3
namespace Go.Proofs.YtkoajdbijlpgaaaDoor
open Go.RowKit

/-- 'string([]byte{..})' of a literal row. -/
theorem run_lit_str {P : Program} {src dst e : TypeId} (hs : P.underlying src = some (.slice e)) (he : P.underlying e = some (.int .u8)) (hd : P.underlying dst = some .string) (w : World) (l : List UInt8) (cs : Array Value) (hc : cs = (Lib.byteCells l).toArray) (n c : Nat) (hn : n = l.length) :
    (convert src dst (.slice (some ⟨w.heap.size, 0, none⟩) n c)).run P (w.alloc (.cells cs e)) = .ok (.string ⟨l.toArray⟩) (w.alloc (.cells cs e)) := by
  subst hc hn
  refine run_convert_bytes_back _ src dst e ⟨w.heap.size, 0, none⟩ c l hs he hd fun j hj => ?_
  have : Addr.add ⟨w.heap.size, 0, none⟩ j = ⟨w.heap.size, j, none⟩ := by unfold Addr.add; by_cases hj : j = 0 <;> simp [hj]
  rw [this, cell_res (heap_alloc_new w _)]
  simp [Lib.byteCells, hj]

theorem lit1 (w : World) (c : UInt8) (x : Int) (hx : x = c.toNat) :
    (convert 88 9 (.slice (some ⟨w.heap.size, 0, none⟩) 1 1)).run Tryd.prog (w.alloc (.cells #[.int .u8 x] 5)) = .ok (.string ⟨#[c]⟩) (w.alloc (.cells #[.int .u8 x] 5)) := by
  subst hx
  exact run_lit_str Tryd.underlying88 Tryd.underlying5 Tryd.underlying9 w [c] _ rfl _ _ rfl
theorem lit2 (w : World) (c d : UInt8) (x y : Int) (hx : x = c.toNat) (hy : y = d.toNat) :
    (convert 88 9 (.slice (some ⟨w.heap.size, 0, none⟩) 2 2)).run Tryd.prog (w.alloc (.cells #[.int .u8 x, .int .u8 y] 5)) = .ok (.string ⟨#[c, d]⟩) (w.alloc (.cells #[.int .u8 x, .int .u8 y] 5)) := by
  subst hx hy
  exact run_lit_str Tryd.underlying88 Tryd.underlying5 Tryd.underlying9 w [c, d] _ rfl _ _ rfl

set_option maxRecDepth 100000 in
set_option maxHeartbeats 1000000 in
theorem ref_hex (n : Int) (h0 : 0 ≤ n) (h1 : n < 16) (w : World) {x : UInt8} (hx : hexd n.toNat = x) :
    Calls Tryd.prog 95 #[.int .u8 n] w fun e w' => e = .returned (.string ⟨#[x]⟩) ∧ Below w.heap.size w w' := by
  by_cases h : n < 10
  · have hc : 48 + n = x.toNat := by
      rw [← hx]; unfold hexd; rw [if_pos (by omega)]; simp; omega
    have hl := fun W => lit1 W x _ hc
    clear hx hc
    go_enter Tryd.func95, Tryd.ntmps95
    go_wp2
    go_ret
    exact ⟨rfl, below_one _ _⟩
  · have hc : 97 + n - 10 = x.toNat := by
      rw [← hx]; unfold hexd; rw [if_neg (by omega)]; simp; omega
    have hl := fun W => lit1 W x _ hc
    clear hx hc
    go_enter Tryd.func95, Tryd.ntmps95
    go_wp2
    go_ret
    exact ⟨rfl, below_one _ _⟩

set_option maxRecDepth 100000 in
set_option maxHeartbeats 1000000 in
theorem ref_char (b : UInt8) (w : World) {x : List UInt8} (hx : spell b = x) :
    Calls Tryd.prog 76 #[.int .u8 b.toNat] w fun e w' => e = .returned (.string ⟨x.toArray⟩) ∧ Below w.heap.size w w' := by
  have hb : b.toNat < 256 := b.toNat_lt
  have hcase : (b.toNat = 34 ∨ b.toNat = 92) ∨ b.toNat = 10 ∨ b.toNat = 9 ∨ (32 ≤ b.toNat ∧ b.toNat ≤ 126 ∧ b.toNat ≠ 34 ∧ b.toNat ≠ 92) ∨ ((b.toNat < 32 ∨ 126 < b.toNat) ∧ b.toNat ≠ 10 ∧ b.toNat ≠ 9) := by omega
  rcases id hcase with h | h | h | h | h
  · have e : spell b = [92, b] := by unfold spell; rw [if_pos h]
    rw [e] at hx
    subst hx
    rcases h with h | h
    · obtain rfl : b = 34 := UInt8.toNat.inj h
      have hl := fun W => lit2 W 92 34 92 34 rfl rfl
      clear hcase h e
      go_enter Tryd.func76, Tryd.ntmps76
      go_wp2
      go_ret
      exact ⟨rfl, below_one _ _⟩
    · obtain rfl : b = 92 := UInt8.toNat.inj h
      have hl := fun W => lit2 W 92 92 92 92 rfl rfl
      clear hcase h e
      go_enter Tryd.func76, Tryd.ntmps76
      go_wp2
      go_ret
      exact ⟨rfl, below_one _ _⟩
  · have e : spell b = [92, 110] := by unfold spell; rw [if_neg (by omega), if_pos h]
    rw [e] at hx
    subst hx
    go_enter Tryd.func76, Tryd.ntmps76
    go_wp2
    go_ret
    exact ⟨rfl, Below.refl _ _⟩
  · have e : spell b = [92, 116] := by unfold spell; rw [if_neg (by omega), if_neg (by omega), if_pos h]
    rw [e] at hx
    subst hx
    go_enter Tryd.func76, Tryd.ntmps76
    go_wp2
    go_ret
    exact ⟨rfl, Below.refl _ _⟩
  · obtain ⟨g1, g2, g3, g4⟩ := h
    have e : spell b = [b] := by unfold spell; rw [if_neg (by omega), if_neg (by omega), if_neg (by omega), if_pos ⟨g1, g2⟩]
    rw [e] at hx
    subst hx
    have b34 : ((b.toNat : Int) == 34) = false := by simp; omega
    have b92 : ((b.toNat : Int) == 92) = false := by simp; omega
    have b10 : ((b.toNat : Int) == 10) = false := by simp; omega
    have b9 : ((b.toNat : Int) == 9) = false := by simp; omega
    have hl := fun W => lit1 W b _ (show (b.toNat : Int) = b.toNat from rfl)
    go_enter Tryd.func76, Tryd.ntmps76
    go_wp2
    go_ret
    exact ⟨rfl, below_one _ _⟩
  · obtain ⟨g1, g2, g3⟩ := h
    have e : spell b = [92, 120, hexd (b.toNat / 16), hexd (b.toNat % 16)] := by unfold spell; rw [if_neg (by omega), if_neg (by omega), if_neg (by omega), if_neg (by omega)]
    rw [e] at hx
    subst hx
    have b34 : ((b.toNat : Int) == 34) = false := by simp; omega
    have b92 : ((b.toNat : Int) == 92) = false := by simp; omega
    have b10 : ((b.toNat : Int) == 10) = false := by simp; omega
    have b9 : ((b.toNat : Int) == 9) = false := by simp; omega
    have H1 := fun W => hid (ref_hex ((b.toNat : Int) / 16) (by omega) (by omega) W (x := hexd (b.toNat / 16)) (by congr 1))
    have H2 := fun W => hid (ref_hex ((b.toNat : Int) % 16) (by omega) (by omega) W (x := hexd (b.toNat % 16)) (by congr 1))
    generalize hexd (b.toNat / 16) = p at *
    generalize hexd (b.toNat % 16) = q at *
    have i1 : 0 ≤ (b.toNat : Int) / 16 := by omega
    have i2 : (b.toNat : Int) / 16 < 16 := by omega
    have i3 : 0 ≤ (b.toNat : Int) % 16 := by omega
    have i4 : (b.toNat : Int) % 16 < 16 := by omega
    clear g2 g3 e
    rcases g1 with g1 | g1
    all_goals
      go_enter Tryd.func76, Tryd.ntmps76
      go_wp2_with fail
      refine (H1 _).out.mono ?_
      rintro e w1 ⟨rfl, k1⟩
      go_wp2_with fail
      refine (H2 _).out.mono ?_
      rintro e w2 ⟨rfl, k2⟩
      have k2' := k1.trans (k2.mono k1.size)
      clear k1 k2 H1 H2
      go_wp2
      go_ret
      exact ⟨rfl, k2'⟩

theorem ret_cat {a b x : List UInt8} (h : a ++ b = x) : Ending.returned (.string (⟨a.toArray⟩ ++ ⟨b.toArray⟩)) = .returned (.string ⟨x.toArray⟩) := by
  subst h
  exact congrArg (fun a => Ending.returned (.string a)) (ByteArray.ext (by simp [ByteArray.data_append]))
theorem str_cat (a b : List UInt8) : Value.string (⟨a.toArray⟩ ++ ⟨b.toArray⟩) = .string ⟨(a ++ b).toArray⟩ :=
  congrArg Value.string (ByteArray.ext (by simp [ByteArray.data_append]))

end Go.Proofs.YtkoajdbijlpgaaaDoor
