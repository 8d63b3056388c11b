/-
  WALKS: slices.insertionSortCmpFunc at rows.
-/
import Derived.Test.YtaghaigckgckpaaDoorSo1
namespace Go.Proofs.YtaghaigckgckpaaDoor
open Go.RowKit

/-- The comparison at a world of the sort's: its closure's box is bx. -/
def CmpOk (w0 : World) (g bx : Nat) (d : List Bool) (l : List El) : Prop := ∀ W, w0.grownBy W (some g) → ∀ x y, x ∈ l → y ∈ l →
  Calls Tryd.prog 24 #[x.val, y.val, .pointer (some ⟨bx, 0, none⟩)] W fun e w' => e = .returned (.int .i64 (rowCmp d x.r y.r)) ∧ Below W.heap.size W w'
def fnV (bx : Nat) : Value := .func (.func 24) #[] #[.pointer (some ⟨bx, 0, none⟩)]
theorem CmpOk.perm {w0 : World} {g bx : Nat} {d : List Bool} {l l' : List El} (h : CmpOk w0 g bx d l) (hp : l'.Perm l) : CmpOk w0 g bx d l' := fun W hw x y hx hy => h W hw x y (hp.mem_iff.1 hx) (hp.mem_iff.1 hy)
theorem CmpOk.at {w0 W : World} {B g n c bx : Nat} {d : List Bool} {l : List El} (h : CmpOk w0 g bx d l) (hs : SoW w0 B g n c l W) {i j : Nat} (hi : i < n) (hj : j < n) :
    Calls Tryd.prog 24 #[(nth El.dum l i).val, (nth El.dum l j).val, .pointer (some ⟨bx, 0, none⟩)] W.drew fun e w' => e = .returned (.int .i64 (rowCmp d (nth El.dum l i).r (nth El.dum l j).r)) ∧ SoW w0 B g n c l w' := by
  have hl := hs.len
  have hd := hs.drew
  refine (h W.drew hd.2.1 _ _ (by rw [nth_at (by omega)]; exact List.getElem_mem (by omega)) (by rw [nth_at (by omega)]; exact List.getElem_mem (by omega))).mono ?_
  rintro e w' ⟨rfl, hb⟩
  exact ⟨rfl, hd.more hb⟩

set_option maxRecDepth 100000 in
set_option maxHeartbeats 4000000 in
theorem insertion_rows (w0 : World) (B g n c a b bx : Nat) (d : List Bool) (l : List El) (w : World) (h : SoW w0 B g n c l w) (hc : CmpOk w0 g bx d l) (hn : n ≤ 100000) (hab : a ≤ b) (hb : b ≤ n) :
    Calls Tryd.prog 44 #[.slice (some ⟨g, 0, none⟩) n c, .int .i64 a, .int .i64 b, fnV bx] w fun e w' => e = .returned (.tuple #[]) ∧ ∃ l', SoW w0 B g n c l' w' ∧ Pm El.dum a b l l' ∧ Srt El.dum (ltE d) a b l' := by
  have H := hid h
  have HC := hid hc
  have O := hid (ltE_ord d)
  clear h hc
  unfold fnV
  go_enter Tryd.func44, Tryd.ntmps44
  go_wp2
  go_loopw [8] (fun vi wr => ∃ (i : Nat) (li : List El), vi = .int .i64 i ∧ a + 1 ≤ i ∧ i ≤ b + 1 ∧ Hid (SoW w0 B g n c li wr) ∧ Hid (Pm El.dum a b l li) ∧ Hid (Srt El.dum (ltE d) a i li)) (fun i _ => b + 1 - (intOf i).toNat)
  case atStart => exact ⟨a + 1, l, by go_num, by omega, by omega, H, hid (Pm.refl _ _ _ _), hid (Srt.one a l)⟩
  case round =>
    obtain ⟨i, li, rfl, hai, hib, HS, HP, HT⟩ := hrel
    clear H
    by_cases hlt : i < b
    · rename World => wo
      go_wp2
      go_loopw [9] (fun vj wr => ∃ (j : Nat) (lj : List El), vj = .int .i64 j ∧ a ≤ j ∧ j ≤ i ∧ Hid (SoW w0 B g n c lj wr) ∧ Hid (Pm El.dum a b l lj) ∧ Hid (InsI El.dum (ltE d) a i j lj)) (fun j _ => (intOf j).toNat)
      case atStart => exact ⟨i, li, rfl, by omega, by omega, HS, HP, hid (InsI.start HT.out)⟩
      case round =>
        obtain ⟨j, lj, rfl, haj, hji, HS1, HP1, HI⟩ := hrel
        clear HS HP HT
        have hl := HS1.out.len
        by_cases hja : a < j
        · have ha1 := (HC.out.perm HP1.out.1).at HS1.out (i := j) (j := j - 1) (by omega) (by omega)
          have cp := HS1.out.cell (k := j) (by omega)
          have cq := HS1.out.cell (k := j - 1) (by omega)
          obtain ⟨jp, hjp⟩ : ∃ q, q = j - 1 := ⟨_, rfl⟩
          have ejp : (j : Int) - 1 = (jp : Int) := by omega
          have rjp : IntKind.i64.wrap ((j : Int) - 1) = (jp : Int) := by rw [IntKind.wrap_i64]; omega
          have rj2 : IntKind.i64.wrap (jp : Int) = (jp : Int) := by rw [IntKind.wrap_i64]; omega
          have b1 : (j : Int) < (n : Int) := by omega
          have b2 : (jp : Int) < (n : Int) := by omega
          have hgt : decide ((a : Int) < (j : Int)) = true := decide_eq_true (by omega)
          obtain ⟨z, hz⟩ : ∃ z, rowCmp d (nth El.dum lj j).r (nth El.dum lj (j - 1)).r = z := ⟨_, rfl⟩
          have hlz : ltE d (nth El.dum lj j) (nth El.dum lj (j - 1)) = decide (z < 0) := by rw [← hz]; rfl
          rw [hz] at ha1
          have HA := hid ha1
          have HLZ := hid hlz
          clear ha1 hz hlz
          by_cases hz0 : z < 0
          · have S2 := hid (fun W (hw : SoW w0 B g n c lj W) => (hw.swap j (j - 1)).drew)
            have U2 := hid (fun W (hw : SoW w0 B g n c lj W) => hw.second j (j - 1) (by omega) (by omega) (nth El.dum lj (j - 1)).val)
            have C2 := hid (fun W (hw : SoW w0 B g n c lj W) => And.intro (hw.cell (k := j) (by omega)) (And.intro (hw.cell (k := j - 1) (by omega)) (And.intro (hw.frozen j) (hw.frozen (j - 1)))))
            have P2 := hid (HP1.out.trans (Pm.swp (i := j) (j := j - 1) (by omega) (by omega) (by omega) (by omega) (by omega) (by omega)))
            have I2 := hid (HI.out.step O.out hja hji (by omega) (HLZ.out.trans (decide_eq_true hz0)))
            rw [← hjp] at cq HA S2 U2 C2 P2 I2
            generalize nth El.dum lj j = x at *
            generalize nth El.dum lj jp = y at *
            simp only [El.val] at cp cq HA S2 U2 C2
            have dz : decide (z < 0) = true := decide_eq_true hz0
            have Hp := hid hjp
            clear hjp HLZ HI HP1 hl HS1
            go_wp2
            go_still_tail 14, (by kernel_rfl)
            change wpList _ _ _ _ _ wr.drew
            clear cp cq
            go_wp2_with fail
            refine HA.out.mono ?_
            rintro e w1 ⟨rfl, hs1⟩
            have S3 := hid (S2.out w1 hs1)
            obtain ⟨u, cu⟩ := U2.out w1 hs1
            obtain ⟨cp, cq, fp, fq⟩ := C2.out w1 hs1
            clear HA S2 U2 C2 hs1
            go_wp2
            go_big_region
            clear cp cq cu fp fq
            generalize ((w1.setCell ⟨g, j, none⟩ (.slice y.A y.r.length y.c)).setCell ⟨g, jp, none⟩ (.slice x.A x.r.length x.c)).drew = w3 at S3 ⊢
            go_wp2
            go_roundw
            case rel => exact ⟨jp, _, rfl, by omega, by omega, S3, P2, I2⟩
            case measure => simp [intOf]; have := Hp.out; omega
          · have F2 := hid (HI.out.fin O.out haj hji (Or.inr (HLZ.out.trans (decide_eq_false hz0))))
            rw [← hjp] at cq HA
            generalize nth El.dum lj j = x at *
            generalize nth El.dum lj jp = y at *
            simp only [El.val] at cp cq HA
            have dz : decide (z < 0) = false := decide_eq_false hz0
            clear hjp HLZ HI hl HS1
            go_wp2
            go_still_tail 14, (by kernel_rfl)
            change wpList _ _ _ _ _ wr.drew
            clear cp cq
            go_wp2_with fail
            refine HA.out.mono ?_
            rintro e w1 ⟨rfl, hs1⟩
            have S3 := hid hs1
            clear HA hs1
            go_wp2
            go_roundw
            case rel => exact ⟨i + 1, lj, by go_num, by omega, by omega, S3, HP1, F2⟩
            case measure => simp [intOf]; omega
        · have ej : j = a := by omega
          subst ej
          have F2 := hid (HI.out.fin O.out (Nat.le_refl _) hji (Or.inl rfl))
          clear HI
          go_wp2
          go_big_region
          have S3 := hid HS1.out.drew
          generalize wr.drew = w3 at S3 ⊢
          go_wp2
          go_roundw
          case rel => exact ⟨i + 1, lj, by go_num, by omega, by omega, S3, HP1, F2⟩
          case measure => simp [intOf]; omega
    · go_wp2
      go_end0
      refine ⟨rfl, li, HS.out, HP.out, ?_⟩
      by_cases e : i = b
      · subst e; exact HT.out
      · exact HT.out.mono (Nat.le_refl _) (by omega)
end Go.Proofs.YtaghaigckgckpaaDoor
