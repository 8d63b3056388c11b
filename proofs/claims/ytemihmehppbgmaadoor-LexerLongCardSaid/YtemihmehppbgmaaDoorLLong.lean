/-
  WALK: ordinallaw18.LexerLong.
-/
import Derived.Test.YtemihmehppbgmaaDoorAwake18
import Derived.Lib.Repeat
namespace Go.Proofs.YtemihmehppbgmaaDoor
open Go.RowKit

theorem rep_one (c : UInt8) : ∀ n, Lib.repeatL [c] n = List.replicate n c
  | 0 => rfl
  | n + 1 => by rw [Lib.repeatL, rep_one c n]; rfl
def manyN : Nat := 65536
theorem many_rep (c : UInt8) (w : World) {S : ByteArray} (hS : S = ⟨(List.replicate manyN c).toArray⟩) :
    Calls Tryd.prog 16 #[.string ⟨#[c]⟩, .int .i64 65536] w fun e w' => e = .returned (.string S) ∧ Below w.heap.size w w' := by
  subst hS
  have h := Tryd.strings_Repeat ⟨#[c]⟩ 65536 w (by omega) (show 1 * 65536 ≤ 140737488355328 by decide)
  have e : (⟨#[c]⟩ : ByteArray).data.toList = [c] := rfl
  rw [e, rep_one] at h
  exact h
theorem many_scan {c : UInt8} (hc : c = 32 ∨ c = 40 ∨ c = 10) {S : ByteArray} (hS : S = ⟨(List.replicate manyN c).toArray⟩) : ∃ ts, scanL S.data.toList = (ts, 0, 0) := by
  have e : S.data.toList = List.replicate manyN c := by rw [hS]
  rw [e]
  have hl : (List.replicate manyN c).length ≤ 65536 := by rw [List.length_replicate]; exact Nat.le_refl _
  rcases hc with rfl | rfl | rfl
  · exact ⟨_, scanL_sc hl (sc_blanks (by decide) _ _)⟩
  · obtain ⟨ts, h, _⟩ := sc_opens manyN 0
    exact ⟨ts, scanL_sc hl h⟩
  · exact ⟨_, scanL_sc hl (sc_blanks (by decide) _ _)⟩
theorem many_size {c : UInt8} {S : ByteArray} (hS : S = ⟨(List.replicate manyN c).toArray⟩) : S.size = 65536 := by
  have e : S.data.toList.length = manyN := by rw [hS]; simp
  have : S.data.toList.length = S.size := by simp
  rw [← this, e]; rfl
theorem more_scan {T : ByteArray} (h : T.size = 65537) : scanL T.data.toList = ([], 0, 13) := by
  unfold scanL
  rw [if_pos (by simp; omega)]

set_option maxRecDepth 100000 in
set_option maxHeartbeats 1000000 in
theorem law_llong (b : Nat) (hb : b < 256) (w : World) (hE : EnvL w) :
    Calls Tryd.prog 7 #[.int .u8 b] w fun e w' => e = .returned (.bool true) ∧ Below w.heap.size w w' := by
  have hm : b % 3 = 0 ∨ b % 3 = 1 ∨ b % 3 = 2 := by omega
  have HA := fun W (h : Below w.heap.size w W) => hid (awake18 W (hE.below h))
  rcases hm with hm | hm | hm
  · have em : (b : Int) % 3 = 0 := by omega
    obtain ⟨S, hS⟩ : ∃ S : ByteArray, S = ⟨(List.replicate manyN 32).toArray⟩ := ⟨_, rfl⟩
    have hz := many_size hS
    obtain ⟨ts, hts⟩ := many_scan (.inl rfl) hS
    have hT : (S ++ (⟨#[32]⟩ : ByteArray)).size = 65537 := by rw [ByteArray.size_append, hz]; rfl
    have H1 := fun W => hid (many_rep 32 W hS)
    have H2 := fun W (h : Below w.heap.size w W) => hid (lex_scan S W (hE.below h) (by omega) hts)
    have H3 := fun W (h : Below w.heap.size w W) => hid (lex_scan (S ++ (⟨#[32]⟩ : ByteArray)) W (hE.below h) (by omega) (more_scan hT))
    have hz1 : S.size ≤ 65536 := by omega
    have k0 := below_one w (.cells #[.string ⟨#[32]⟩, .string ⟨#[40]⟩, .string ⟨#[10]⟩] 9)
    clear hS hts hz hT hE hm
    go_enter Tryd.func7, Tryd.ntmps7
    go_wp2_with fail
    refine (H1 _).out.mono ?_
    rintro e w1 ⟨rfl, b1⟩
    have k1 := k0.trans (b1.mono k0.size)
    clear H1 b1 k0 em
    go_wp2_with fail
    refine (H2 _ k1).out.mono ?_
    rintro e w2 ⟨A, c, rfl, _, _, b2⟩
    have k2 := k1.trans (b2.mono k1.size)
    clear H2 b2 k1
    go_wp2_with fail
    refine (H3 _ k2).out.mono ?_
    rintro e w3 ⟨A', c', rfl, _, _, b3⟩
    have k3 := k2.trans (b3.mono k2.size)
    clear H3 b3 k2
    go_wp2_with fail
    refine (HA _ k3).out.mono ?_
    rintro e w4 ⟨rfl, b4⟩
    have k4 := k3.trans (b4.mono k3.size)
    clear HA
    go_wp2
    go_ret
    exact ⟨rfl, k4⟩
  · have em : (b : Int) % 3 = 1 := by omega
    obtain ⟨S, hS⟩ : ∃ S : ByteArray, S = ⟨(List.replicate manyN 40).toArray⟩ := ⟨_, rfl⟩
    have hz := many_size hS
    obtain ⟨ts, hts⟩ := many_scan (.inr (.inl rfl)) hS
    have hT : (S ++ (⟨#[32]⟩ : ByteArray)).size = 65537 := by rw [ByteArray.size_append, hz]; rfl
    have H1 := fun W => hid (many_rep 40 W hS)
    have H2 := fun W (h : Below w.heap.size w W) => hid (lex_scan S W (hE.below h) (by omega) hts)
    have H3 := fun W (h : Below w.heap.size w W) => hid (lex_scan (S ++ (⟨#[32]⟩ : ByteArray)) W (hE.below h) (by omega) (more_scan hT))
    have hz1 : S.size ≤ 65536 := by omega
    have k0 := below_one w (.cells #[.string ⟨#[32]⟩, .string ⟨#[40]⟩, .string ⟨#[10]⟩] 9)
    clear hS hts hz hT hE hm
    go_enter Tryd.func7, Tryd.ntmps7
    go_wp2_with fail
    refine (H1 _).out.mono ?_
    rintro e w1 ⟨rfl, b1⟩
    have k1 := k0.trans (b1.mono k0.size)
    clear H1 b1 k0 em
    go_wp2_with fail
    refine (H2 _ k1).out.mono ?_
    rintro e w2 ⟨A, c, rfl, _, _, b2⟩
    have k2 := k1.trans (b2.mono k1.size)
    clear H2 b2 k1
    go_wp2_with fail
    refine (H3 _ k2).out.mono ?_
    rintro e w3 ⟨A', c', rfl, _, _, b3⟩
    have k3 := k2.trans (b3.mono k2.size)
    clear H3 b3 k2
    go_wp2_with fail
    refine (HA _ k3).out.mono ?_
    rintro e w4 ⟨rfl, b4⟩
    have k4 := k3.trans (b4.mono k3.size)
    clear HA
    go_wp2
    go_ret
    exact ⟨rfl, k4⟩
  · have em : (b : Int) % 3 = 2 := by omega
    obtain ⟨S, hS⟩ : ∃ S : ByteArray, S = ⟨(List.replicate manyN 10).toArray⟩ := ⟨_, rfl⟩
    have hz := many_size hS
    obtain ⟨ts, hts⟩ := many_scan (.inr (.inr rfl)) hS
    have hT : (S ++ (⟨#[32]⟩ : ByteArray)).size = 65537 := by rw [ByteArray.size_append, hz]; rfl
    have H1 := fun W => hid (many_rep 10 W hS)
    have H2 := fun W (h : Below w.heap.size w W) => hid (lex_scan S W (hE.below h) (by omega) hts)
    have H3 := fun W (h : Below w.heap.size w W) => hid (lex_scan (S ++ (⟨#[32]⟩ : ByteArray)) W (hE.below h) (by omega) (more_scan hT))
    have hz1 : S.size ≤ 65536 := by omega
    have k0 := below_one w (.cells #[.string ⟨#[32]⟩, .string ⟨#[40]⟩, .string ⟨#[10]⟩] 9)
    clear hS hts hz hT hE hm
    go_enter Tryd.func7, Tryd.ntmps7
    go_wp2_with fail
    refine (H1 _).out.mono ?_
    rintro e w1 ⟨rfl, b1⟩
    have k1 := k0.trans (b1.mono k0.size)
    clear H1 b1 k0 em
    go_wp2_with fail
    refine (H2 _ k1).out.mono ?_
    rintro e w2 ⟨A, c, rfl, _, _, b2⟩
    have k2 := k1.trans (b2.mono k1.size)
    clear H2 b2 k1
    go_wp2_with fail
    refine (H3 _ k2).out.mono ?_
    rintro e w3 ⟨A', c', rfl, _, _, b3⟩
    have k3 := k2.trans (b3.mono k2.size)
    clear H3 b3 k2
    go_wp2_with fail
    refine (HA _ k3).out.mono ?_
    rintro e w4 ⟨rfl, b4⟩
    have k4 := k3.trans (b4.mono k3.size)
    clear HA
    go_wp2
    go_ret
    exact ⟨rfl, k4⟩
end Go.Proofs.YtemihmehppbgmaaDoor
