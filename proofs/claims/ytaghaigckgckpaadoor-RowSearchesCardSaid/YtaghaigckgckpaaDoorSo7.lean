/-
  WALKS: slices.stableCmpFunc (at most 40 rows), SortStableFunc.
-/
import Derived.Test.YtaghaigckgckpaaDoorSo6
namespace Go.Proofs.YtaghaigckgckpaaDoor
open Go.RowKit

set_option maxRecDepth 100000 in
set_option maxHeartbeats 8000000 in
theorem stable_rows (w0 : World) (B g n c bx : Nat) (d : List Bool) (l : List El) (w : World) (h : SoW w0 B g n c l w) (hc : CmpOk w0 g bx d l) (hn : n ≤ 40) :
    Calls Tryd.prog 35 #[.slice (some ⟨g, 0, none⟩) n c, .int .i64 n, fnV bx] w fun e w' => e = .returned (.tuple #[]) ∧ ∃ l', SoW w0 B g n c l' w' ∧ l'.Perm l ∧ Srt El.dum (ltE d) 0 n l' := by
  have H := hid h
  have HC := hid hc
  have HIns := fun (a b : Nat) (l1 : List El) (W : World) (hs : SoW w0 B g n c l1 W) (hp : l1.Perm l) (hab : a ≤ b) (hb : b ≤ n) => hid (insertion_rows w0 B g n c a b bx d l1 W hs (hc.perm hp) (by omega) hab hb)
  have HSym := fun (a m b : Nat) (l1 : List El) (W : World) (hs : SoW w0 B g n c l1 W) (hp : l1.Perm l) (h1 : a < m) (h2 : m < b) (h3 : b ≤ n) (s1 : Srt El.dum (ltE d) a m l1) (s2 : Srt El.dum (ltE d) m b l1) => hid (sym_all w0 B g n c bx d (by omega) (b - a) a m b l1 W (Nat.le_refl _) hs (hc.perm hp) h1 h2 h3 s1 s2)
  unfold SymC at HSym
  unfold fnV at *
  clear h hc
  by_cases c1 : n < 20
  · have hI := HIns 0 n l w H.out (List.Perm.refl _) (by omega) (Nat.le_refl _)
    clear HIns HSym H HC
    go_enter Tryd.func35, Tryd.ntmps35
    go_wp2_with fail
    refine wp_loop_rounds 1 ?_
    rw [rounds_succ]
    go_wp2_with fail
    refine hI.out.mono ?_
    rintro e w1 ⟨rfl, l1, hs1, hp1, hq1⟩
    go_wp2_with fail
    refine wp_loop_rounds 1 ?_
    rw [rounds_succ]
    go_wp2
    go_end0
    exact ⟨rfl, l1, hs1, hp1.1, hq1⟩
  · by_cases c2 : n < 40
    · have hI := HIns 0 20 l w H.out (List.Perm.refl _) (by omega) (by omega)
      clear H HC
      go_enter Tryd.func35, Tryd.ntmps35
      go_wp2_with fail
      refine wp_loop_rounds 2 ?_
      rw [rounds_succ]
      go_wp2_with fail
      refine hI.out.mono ?_
      rintro e w1 ⟨rfl, l1, hs1, hp1, hq1⟩
      have hI2 := HIns 20 n l1 w1 hs1 hp1.1 (by omega) (Nat.le_refl _)
      have P1 := hid hp1
      have Q1 := hid hq1
      clear hI hs1 hp1 hq1 HIns
      go_wp2_with fail
      rw [rounds_succ]
      go_wp2_with fail
      refine hI2.out.mono ?_
      rintro e w2 ⟨rfl, l2, hs2, hp2, hq2⟩
      have hP2 : l2.Perm l := hp2.1.trans P1.out.1
      have hQ2 : Srt El.dum (ltE d) 0 20 l2 := Q1.out.out hp2 (Or.inl (Nat.le_refl _))
      by_cases c3 : n = 20
      · have S2 := hid hs2
        have P2 := hid hP2
        have Q2 := hid hQ2
        have c4 := hid c3
        have c5 : (n : Int) ≤ 20 := by omega
        clear hI2 hs2 hp2 hq2 hP2 hQ2 HSym c3 P1 Q1
        go_wp2_with fail
        refine wp_loop_rounds 1 ?_
        rw [rounds_succ]
        go_wp2
        go_end0
        exact ⟨rfl, l2, S2.out, P2.out, by rw [c4.out]; exact Q2.out⟩
      · have hM := HSym 0 20 n l2 w2 hs2 hP2 (by omega) (by omega) (Nat.le_refl _) hQ2 hq2
        have P2 := hid hP2
        have c5 : (20 : Int) < (n : Int) := by omega
        clear hI2 hs2 hp2 hq2 hP2 hQ2 HSym c3 P1 Q1
        go_wp2_with fail
        refine wp_loop_rounds 2 ?_
        rw [rounds_succ]
        go_wp2_with fail
        refine wp_loop_rounds 1 ?_
        rw [rounds_succ]
        go_wp2_with fail
        refine hM.out.mono ?_
        rintro e w3 ⟨rfl, l3, hs3, hp3, hq3⟩
        have S3 := hid hs3
        have P3 := hid (hp3.1.trans P2.out)
        have Q3 := hid hq3
        clear hM hs3 hp3 hq3
        go_wp2_with fail
        rw [rounds_succ]
        go_wp2
        go_end0
        exact ⟨rfl, l3, S3.out, P3.out, Q3.out⟩
    · have hI := HIns 0 20 l w H.out (List.Perm.refl _) (by omega) (by omega)
      have hn2 : n = 40 := by omega
      clear H HC c1 c2 hn
      subst hn2
      go_enter Tryd.func35, Tryd.ntmps35
      go_wp2_with fail
      refine wp_loop_rounds 3 ?_
      rw [rounds_succ]
      go_wp2_with fail
      refine hI.out.mono ?_
      rintro e w1 ⟨rfl, l1, hs1, hp1, hq1⟩
      have hI2 := HIns 20 40 l1 w1 hs1 hp1.1 (by omega) (Nat.le_refl _)
      have P1 := hid hp1
      have Q1 := hid hq1
      clear hI hs1 hp1 hq1
      go_wp2_with fail
      rw [rounds_succ]
      go_wp2_with fail
      refine hI2.out.mono ?_
      rintro e w2 ⟨rfl, l2, hs2, hp2, hq2⟩
      have hP2 : l2.Perm l := hp2.1.trans P1.out.1
      have hQ2 : Srt El.dum (ltE d) 0 20 l2 := Q1.out.out hp2 (Or.inl (Nat.le_refl _))
      have hI3 := HIns 40 40 l2 w2 hs2 hP2 (by omega) (Nat.le_refl _)
      have P2 := hid hP2
      have Q2 := hid hQ2
      have R2 := hid hq2
      clear hI2 hs2 hp2 hq2 hP2 hQ2 HIns P1 Q1
      go_wp2_with fail
      rw [rounds_succ]
      go_wp2_with fail
      refine hI3.out.mono ?_
      rintro e w3 ⟨rfl, l3, hs3, hp3, hq3⟩
      have hM := HSym 0 20 40 l3 w3 hs3 (hp3.1.trans P2.out) (by omega) (by omega) (Nat.le_refl _) (Q2.out.out hp3 (Or.inl (by omega))) (R2.out.out hp3 (Or.inl (by omega)))
      have P3 := hid (hp3.1.trans P2.out)
      clear hI3 hs3 hp3 hq3 HSym P2 Q2 R2
      go_wp2_with fail
      refine wp_loop_rounds 2 ?_
      rw [rounds_succ]
      go_wp2_with fail
      refine wp_loop_rounds 2 ?_
      rw [rounds_succ]
      go_wp2_with fail
      refine hM.out.mono ?_
      rintro e w4 ⟨rfl, l4, hs4, hp4, hq4⟩
      have S4 := hid hs4
      have P4 := hid (hp4.1.trans P3.out)
      have Q4 := hid hq4
      clear hM hs4 hp4 hq4
      go_wp2_with fail
      rw [rounds_succ]
      go_wp2_with fail
      rw [rounds_succ]
      go_wp2
      go_end0
      exact ⟨rfl, l4, S4.out, P4.out, Q4.out⟩

set_option maxRecDepth 100000 in
set_option maxHeartbeats 1000000 in
theorem sort_rows (w0 : World) (B g n c bx : Nat) (d : List Bool) (l : List El) (w : World) (h : SoW w0 B g n c l w) (hc : CmpOk w0 g bx d l) (hn : n ≤ 40) :
    Calls Tryd.prog 23 #[.slice (some ⟨g, 0, none⟩) n c, fnV bx] w fun e w' => e = .returned (.tuple #[]) ∧ ∃ l', SoW w0 B g n c l' w' ∧ l'.Perm l ∧ Srt El.dum (ltE d) 0 n l' := by
  have H := hid (stable_rows w0 B g n c bx d l w h hc hn)
  unfold fnV at *
  clear h hc
  go_enter Tryd.func23, Tryd.ntmps23
  go_wp2_with fail
  refine H.out.mono ?_
  rintro e w1 ⟨rfl, l1, hs1, hp1, hq1⟩
  go_wp2
  go_end0
  exact ⟨rfl, l1, hs1, hp1, hq1⟩
end Go.Proofs.YtaghaigckgckpaaDoor
