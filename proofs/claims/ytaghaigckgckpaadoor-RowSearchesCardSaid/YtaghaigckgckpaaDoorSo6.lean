/-
  WALKS: slices.symMergeCmpFunc at rows, whole.
-/
import Derived.Test.YtaghaigckgckpaaDoorSo5
import Derived.Test.YtaghaigckgckpaaDoorSo2
namespace Go.Proofs.YtaghaigckgckpaaDoor
open Go.RowKit

def SplitOk (d : List Bool) (a s mid en b : Nat) (l : List El) : Prop := Srt El.dum (ltE d) a s l ∧ Srt El.dum (ltE d) s mid l ∧ Srt El.dum (ltE d) mid en l ∧ Srt El.dum (ltE d) en b l ∧ (∀ p q, a ≤ p → p < mid → mid ≤ q → q < b → ltE d (nth El.dum l q) (nth El.dum l p) = false)
theorem rot_none {α : Type} {f : Nat → α} {m i j t : Nat} (h : i = 0 ∨ j = 0) : f t = rotF f m i j t := by
  unfold rotF
  repeat' split
  all_goals first | rfl | (exfalso; omega) | (congr 1; omega)
theorem sym_fin {d : List Bool} {a s mid en b : Nat} {l l1 l2 l3 : List El} (h0 : Pm El.dum a b l l1) (hs : SplitOk d a s mid en b l1) (ham : a ≤ mid) (hmb : mid ≤ b) (h1 : Pm El.dum a mid l1 l2) (h2 : Pm El.dum mid b l2 l3) (s1 : Srt El.dum (ltE d) a mid l2) (s2 : Srt El.dum (ltE d) mid b l3) :
    Pm El.dum a b l l3 ∧ Srt El.dum (ltE d) a b l3 := by
  obtain ⟨_, _, _, _, hx⟩ := hs
  refine ⟨(h0.trans (h1.mono (Nat.le_refl _) hmb)).trans (h2.mono ham (Nat.le_refl _)), ?_⟩
  exact sym_join hx h1 h2 s1 s2
theorem half1 {d : List Bool} {a s mid en b : Nat} {l : List El} (h : SplitOk d a s mid en b l) (hc : s ≤ a ∨ mid ≤ s) : Srt El.dum (ltE d) a mid l := by
  rcases hc with hc | hc
  · exact h.2.1.mono hc (Nat.le_refl _)
  · exact h.1.mono (Nat.le_refl _) hc
theorem half2 {d : List Bool} {a s mid en b : Nat} {l l2 : List El} (h : SplitOk d a s mid en b l) (hp : Pm El.dum a mid l l2) (hc : en ≤ mid ∨ b ≤ en) : Srt El.dum (ltE d) mid b l2 := by
  have : Srt El.dum (ltE d) mid b l := by
    rcases hc with hc | hc
    · exact h.2.2.2.1.mono hc (Nat.le_refl _)
    · exact h.2.2.1.mono (Nat.le_refl _) hc
  exact this.out hp (Or.inr (Nat.le_refl _))
theorem split_ok {d : List Bool} {a m b mid s s0 r0 en : Nat} {l l1 : List El} (ham : a < m) (hmb : m < b) (hmid : mid = (a + b) / 2) (hs0 : (mid < m ∧ s0 = mid + m - b ∧ r0 = mid) ∨ (m ≤ mid ∧ s0 = a ∧ r0 = m)) (hen : en = mid + m - s)
    (h1 : Srt El.dum (ltE d) a m l) (h2 : Srt El.dum (ltE d) m b l) (hI : SymI El.dum (ltE d) l s0 r0 (mid + m) s s) (he : ∀ t, nth El.dum l1 t = rotF (nth El.dum l) m (m - s) (en - m) t) :
    (a ≤ s ∧ s ≤ m ∧ s ≤ mid ∧ m ≤ en ∧ en ≤ b ∧ mid ≤ en) ∧ SplitOk d a s mid en b l1 := by
  subst hen
  obtain ⟨g1, g2, g3, g4, g5, g6, g7, g8, g9, g10, g11⟩ := sym_split (ltE_ord d) ham hmb hmid hs0 h1 h2 hI he
  exact ⟨⟨g1, g2, g3, g4, g5, g6⟩, g7, g8, g9, g10, g11⟩
/-- What a call of symMergeCmpFunc does. -/
def SymC (w0 : World) (B g n c bx : Nat) (d : List Bool) (a m b : Nat) (l : List El) (w : World) : Prop :=
  Calls Tryd.prog 45 #[.slice (some ⟨g, 0, none⟩) n c, .int .i64 a, .int .i64 m, .int .i64 b, fnV bx] w fun e w' => e = .returned (.tuple #[]) ∧ ∃ l', SoW w0 B g n c l' w' ∧ Pm El.dum a b l l' ∧ Srt El.dum (ltE d) a b l'

set_option maxRecDepth 100000 in
set_option maxHeartbeats 8000000 in
theorem sym_step (w0 : World) (B g n c a m b bx : Nat) (d : List Bool) (l : List El) (w : World) (h : SoW w0 B g n c l w) (hc : CmpOk w0 g bx d l) (hn : n ≤ 100000) (ham : a + 1 < m) (hmb : m + 1 < b) (hb : b ≤ n) (h1 : Srt El.dum (ltE d) a m l) (h2 : Srt El.dum (ltE d) m b l)
    (ih : ∀ (a' m' b' : Nat) (l' : List El) (W : World), b' - a' < b - a → SoW w0 B g n c l' W → CmpOk w0 g bx d l' → a' < m' → m' < b' → b' ≤ n → Srt El.dum (ltE d) a' m' l' → Srt El.dum (ltE d) m' b' l' → SymC w0 B g n c bx d a' m' b' l' W) :
    SymC w0 B g n c bx d a m b l w := by
  have H := hid h
  have HC := hid hc
  have H1 := hid h1
  have H2 := hid h2
  have IH := hid ih
  clear h hc h1 h2 ih
  unfold SymC
  have hd1 : (((m : Int) - (a : Int)) == 1) = false := by simp; omega
  have hd2 : (((b : Int) - (m : Int)) == 1) = false := by simp; omega
  obtain ⟨mid, hmid⟩ : ∃ q, q = (a + b) / 2 := ⟨_, rfl⟩
  have emid : ((a : Int) + (b : Int)) / 2 = (mid : Int) := by omega
  have hm1 : a < mid := by omega
  have hm2 : mid < b := by omega
  have HMid := hid hmid
  clear hmid
  obtain ⟨nn, hnn⟩ : ∃ q, q = mid + m := ⟨_, rfl⟩
  have enn : (mid : Int) + (m : Int) = (nn : Int) := by omega
  obtain ⟨pn, hpn⟩ : ∃ q, q + 1 = nn := ⟨nn - 1, by omega⟩
  have epn : (nn : Int) - 1 = (pn : Int) := by omega
  have HNn := hid hnn
  have HPn := hid hpn
  have hnb : nn ≤ 200000 := by omega
  have hpb : pn ≤ 200000 := by omega
  clear hnn hpn
  obtain ⟨s0, r0, hs0⟩ : ∃ s0 r0, (mid < m ∧ s0 = mid + m - b ∧ r0 = mid) ∨ (m ≤ mid ∧ s0 = a ∧ r0 = m) := by
    by_cases hh : mid < m
    · exact ⟨_, _, Or.inl ⟨hh, rfl, rfl⟩⟩
    · exact ⟨_, _, Or.inr ⟨by omega, rfl, rfl⟩⟩
  have HS0 := hid hs0
  have hs0a : a ≤ s0 := by have := HMid.out; rcases hs0 with h | h <;> omega
  have hs0r : s0 ≤ r0 := by have := HMid.out; rcases hs0 with h | h <;> omega
  have hr0m : r0 ≤ m := by rcases hs0 with h | h <;> omega
  have hr0d : r0 ≤ mid := by rcases hs0 with h | h <;> omega
  have hs0b : nn < b + s0 + 1 := by have := HMid.out; have := HNn.out; rcases hs0 with h | h <;> omega
  unfold fnV
  rcases hs0 with ⟨hx, hy, hz⟩ | ⟨hx, hy, hz⟩
  · have hx2 : (mid : Int) < (m : Int) := by omega
    have es0 : (nn : Int) - (b : Int) = (s0 : Int) := by have := HNn.out; omega
    have HZ := hid hz
    have er0 : (mid : Int) = (r0 : Int) := by omega
    have er1 := hid er0
    clear hy hz er0
    go_enter Tryd.func45, Tryd.ntmps45
    go_wp2
    go_loopw [20, 21] (fun vs vr wr => ∃ (s r : Nat), vs = .int .i64 s ∧ vr = .int .i64 r ∧ s0 ≤ s ∧ s ≤ r ∧ r ≤ r0 ∧ Hid (SoW w0 B g n c l wr) ∧ Hid (SymI El.dum (ltE d) l s0 r0 (mid + m) s r)) (fun s r _ => (intOf r).toNat - (intOf s).toNat)
    case atStart => exact ⟨s0, r0, (by have := HNn.out; have := HS0.out; go_num), (by have := HS0.out; go_num), Nat.le_refl _, hs0r, Nat.le_refl _, H, hid ⟨⟨Nat.le_refl _, hs0r, Nat.le_refl _⟩, fun k _ _ => by omega, fun k _ _ => by omega⟩⟩
    case round =>
      obtain ⟨s, r, rfl, rfl, hs0s, hsr, hrr0, HS, HI⟩ := hrel
      clear H
      by_cases hlt : s < r
      · obtain ⟨q, hq⟩ : ∃ q, q = (s + r) / 2 := ⟨_, rfl⟩
        have eq : ((s : Int) + (r : Int)) / 2 = (q : Int) := by omega
        have hiq : s ≤ q := by omega
        have hqj : q < r := by omega
        obtain ⟨e, he⟩ : ∃ e, e = pn - q := ⟨_, rfl⟩
        have hep := HPn.out
        have hen := HNn.out
        have ee : (pn : Int) - (q : Int) = (e : Int) := by omega
        have re : IntKind.i64.wrap ((pn : Int) - (q : Int)) = (e : Int) := by rw [IntKind.wrap_i64]; omega
        have re2 : IntKind.i64.wrap (e : Int) = (e : Int) := by rw [IntKind.wrap_i64]; omega
        have he1 : e < b := by omega
        have he2 : m ≤ e := by omega
        have hA := HC.out.at HS.out (i := e) (j := q) (by omega) (by omega)
        have cp := HS.out.cell (k := e) (by omega)
        have cq := HS.out.cell (k := q) (by omega)
        have b1 : (q : Int) < (n : Int) := by omega
        have b2 : (e : Int) < (n : Int) := by omega
        obtain ⟨z, hz⟩ : ∃ z, rowCmp d (nth El.dum l e).r (nth El.dum l q).r = z := ⟨_, rfl⟩
        have hlz : ltE d (nth El.dum l e) (nth El.dum l q) = decide (z < 0) := by rw [← hz]; rfl
        rw [hz] at hA
        have HA := hid hA
        have HLZ := hid hlz
        have HQ := hid hq
        have HE := hid he
        have HEP := hid hep
        have HEN := hid hen
        clear hA hz hlz hq he hep hen
        by_cases hz0 : z < 0
        · have dz : decide (z < 0) = true := decide_eq_true hz0
          have I2 : Hid (SymI El.dum (ltE d) l s0 r0 (mid + m) s q) := hid ⟨⟨by omega, by omega, by omega⟩, HI.out.lo, fun k k1 k2 => (by
            have := HE.out
            have := HEP.out
            have := HEN.out
            have := HMid.out
            exact lt_up H2.out (p := mid + m - 1 - k) (q := e) (by omega) (by omega) (by omega) (gt_up H1.out (by omega) k1 (by omega) (HLZ.out.trans dz)))⟩
          clear HLZ HI HS HE HEP HEN
          generalize (nth El.dum l e).val = x at *
          generalize (nth El.dum l q).val = y at *
          go_wp2
          go_still_tail 11, (by kernel_rfl)
          change wpList _ _ _ _ _ wr.drew
          clear cp cq
          go_wp2_with fail
          refine HA.out.mono ?_
          rintro e w1 ⟨rfl, hs1⟩
          have S3 := hid hs1
          clear HA hs1
          go_wp2
          go_roundw
          case rel => exact ⟨s, q, rfl, rfl, hs0s, by omega, by omega, S3, I2⟩
          case measure => simp [intOf]; omega
        · have dz : decide (z < 0) = false := decide_eq_false hz0
          have I2 : Hid (SymI El.dum (ltE d) l s0 r0 (mid + m) (q + 1) r) := hid ⟨⟨by omega, by omega, by omega⟩, fun k k1 k2 => (by
            have := HE.out
            have := HEP.out
            have := HEN.out
            have := HMid.out
            exact ge_up H2.out (p := e) (q := mid + m - 1 - k) (by omega) (by omega) (by omega) (le_dn H1.out (p := k) (q := q) (by omega) (by omega) (by omega) (HLZ.out.trans dz))), HI.out.hi⟩
          clear HLZ HI HS HE HEP HEN
          generalize (nth El.dum l e).val = x at *
          generalize (nth El.dum l q).val = y at *
          go_wp2
          go_still_tail 11, (by kernel_rfl)
          change wpList _ _ _ _ _ wr.drew
          clear cp cq
          go_wp2_with fail
          refine HA.out.mono ?_
          rintro e w1 ⟨rfl, hs1⟩
          have S3 := hid hs1
          clear HA hs1
          go_wp2
          go_roundw
          case rel => exact ⟨q + 1, r, by go_num, rfl, by omega, by omega, hrr0, S3, I2⟩
          case measure => simp [intOf]; omega
      · have hsr2 : s = r := by omega
        subst hsr2
        obtain ⟨en, hen⟩ : ∃ q, q = mid + m - s := ⟨_, rfl⟩
        have een : (nn : Int) - (s : Int) = (en : Int) := by have := HNn.out; omega
        have HEn := hid hen
        have hms : s ≤ m := by omega
        have hds : s ≤ mid := by omega
        have hme : m ≤ en := by omega
        have hde : mid ≤ en := by omega
        have heb : en ≤ b := by have := HNn.out; omega
        have hk1 : en + s = mid + m := by omega
        have HTriv : Hid ((m - s = 0 ∨ en - m = 0) → (a ≤ s ∧ s ≤ m ∧ s ≤ mid ∧ m ≤ en ∧ en ≤ b ∧ mid ≤ en) ∧ SplitOk d a s mid en b l) := hid (fun h0 => split_ok (by omega) (by omega) HMid.out HS0.out HEn.out H1.out H2.out HI.out (fun t => rot_none h0))
        have HK := hid hk1
        clear hen hk1
        by_cases c1 : s < m
        · by_cases c2 : m < en
          · have c3 : s < mid := by have := HK.out; omega
            have c4 : mid < en := by have := HK.out; omega
            by_cases c5 : a < s
            · by_cases c6 : en < b
              · have HR := hid (rotate_rows w0 B g n c s m en l (fnV bx) wr HS.out hn (by omega) (by omega) (by omega))
                have HE := hid (fun l1 he => split_ok (l1 := l1) (en := en) (by omega) (by omega) HMid.out HS0.out HEn.out H1.out H2.out HI.out he)
                clear HS HI HTriv
                unfold fnV at HR
                go_wp2_with fail
                refine HR.out.mono ?_
                rintro e w1 ⟨rfl, l1, hs1, hp1, ht1⟩
                have SP := hid (HE.out l1 ht1).2
                have P1 := hid (hp1.mono (a' := a) (b' := b) (by omega) (by omega))
                have S1 := hid hs1
                have C1 := hid (HC.out.perm hp1.1)
                clear hs1 hp1 ht1 HR HE
                have HA := hid (IH.out a s mid l1 _ (by omega) S1.out C1.out (by omega) (by omega) (by omega) SP.out.1 SP.out.2.1)
                unfold SymC fnV at HA
                go_wp2_with fail
                refine HA.out.mono ?_
                rintro e w2 ⟨rfl, l2, hs2, hp2, hq2⟩
                have S2 := hid hs2
                have P2 := hid hp2
                have Q2 := hid hq2
                have C2 := hid (C1.out.perm hp2.1)
                clear hs2 hp2 hq2 HA S1
                have HB := hid (IH.out mid en b l2 _ (by omega) S2.out C2.out (by omega) (by omega) (by omega) (SP.out.2.2.1.out P2.out (Or.inr (Nat.le_refl _))) (SP.out.2.2.2.1.out P2.out (Or.inr (by omega))))
                unfold SymC fnV at HB
                go_wp2_with fail
                refine HB.out.mono ?_
                rintro e w3 ⟨rfl, l3, hs3, hp3, hq3⟩
                have S3 := hid hs3
                have P3 := hid hp3
                have Q3 := hid hq3
                clear hs3 hp3 hq3 HB S2
                have FIN := hid (sym_fin P1.out SP.out (by omega) (by omega) P2.out P3.out Q2.out Q3.out)
                go_wp2
                go_end0
                exact ⟨rfl, l3, S3.out, FIN.out.1, FIN.out.2⟩
              · have HR := hid (rotate_rows w0 B g n c s m en l (fnV bx) wr HS.out hn (by omega) (by omega) (by omega))
                have HE := hid (fun l1 he => split_ok (l1 := l1) (en := en) (by omega) (by omega) HMid.out HS0.out HEn.out H1.out H2.out HI.out he)
                clear HS HI HTriv
                unfold fnV at HR
                go_wp2_with fail
                refine HR.out.mono ?_
                rintro e w1 ⟨rfl, l1, hs1, hp1, ht1⟩
                have SP := hid (HE.out l1 ht1).2
                have P1 := hid (hp1.mono (a' := a) (b' := b) (by omega) (by omega))
                have S1 := hid hs1
                have C1 := hid (HC.out.perm hp1.1)
                clear hs1 hp1 ht1 HR HE
                have HA := hid (IH.out a s mid l1 _ (by omega) S1.out C1.out (by omega) (by omega) (by omega) SP.out.1 SP.out.2.1)
                unfold SymC fnV at HA
                go_wp2_with fail
                refine HA.out.mono ?_
                rintro e w2 ⟨rfl, l2, hs2, hp2, hq2⟩
                have S2 := hid hs2
                have P2 := hid hp2
                have Q2 := hid hq2
                have C2 := hid (C1.out.perm hp2.1)
                clear hs2 hp2 hq2 HA S1
                have P3 := hid (Pm.refl El.dum mid b l2)
                have Q3 := hid (half2 SP.out P2.out (by omega))
                have S3 := S2
                clear S2
                have FIN := hid (sym_fin P1.out SP.out (by omega) (by omega) P2.out P3.out Q2.out Q3.out)
                go_wp2
                go_end0
                exact ⟨rfl, l2, S3.out, FIN.out.1, FIN.out.2⟩
            · by_cases c6 : en < b
              · have HR := hid (rotate_rows w0 B g n c s m en l (fnV bx) wr HS.out hn (by omega) (by omega) (by omega))
                have HE := hid (fun l1 he => split_ok (l1 := l1) (en := en) (by omega) (by omega) HMid.out HS0.out HEn.out H1.out H2.out HI.out he)
                clear HS HI HTriv
                unfold fnV at HR
                go_wp2_with fail
                refine HR.out.mono ?_
                rintro e w1 ⟨rfl, l1, hs1, hp1, ht1⟩
                have SP := hid (HE.out l1 ht1).2
                have P1 := hid (hp1.mono (a' := a) (b' := b) (by omega) (by omega))
                have S1 := hid hs1
                have C1 := hid (HC.out.perm hp1.1)
                clear hs1 hp1 ht1 HR HE
                have P2 := hid (Pm.refl El.dum a mid l1)
                have Q2 := hid (half1 SP.out (by omega))
                have S2 := S1
                have C2 := C1
                clear S1
                have HB := hid (IH.out mid en b l1 _ (by omega) S2.out C2.out (by omega) (by omega) (by omega) (SP.out.2.2.1.out P2.out (Or.inr (Nat.le_refl _))) (SP.out.2.2.2.1.out P2.out (Or.inr (by omega))))
                unfold SymC fnV at HB
                go_wp2_with fail
                refine HB.out.mono ?_
                rintro e w3 ⟨rfl, l3, hs3, hp3, hq3⟩
                have S3 := hid hs3
                have P3 := hid hp3
                have Q3 := hid hq3
                clear hs3 hp3 hq3 HB S2
                have FIN := hid (sym_fin P1.out SP.out (by omega) (by omega) P2.out P3.out Q2.out Q3.out)
                go_wp2
                go_end0
                exact ⟨rfl, l3, S3.out, FIN.out.1, FIN.out.2⟩
              · have HR := hid (rotate_rows w0 B g n c s m en l (fnV bx) wr HS.out hn (by omega) (by omega) (by omega))
                have HE := hid (fun l1 he => split_ok (l1 := l1) (en := en) (by omega) (by omega) HMid.out HS0.out HEn.out H1.out H2.out HI.out he)
                clear HS HI HTriv
                unfold fnV at HR
                go_wp2_with fail
                refine HR.out.mono ?_
                rintro e w1 ⟨rfl, l1, hs1, hp1, ht1⟩
                have SP := hid (HE.out l1 ht1).2
                have P1 := hid (hp1.mono (a' := a) (b' := b) (by omega) (by omega))
                have S1 := hid hs1
                have C1 := hid (HC.out.perm hp1.1)
                clear hs1 hp1 ht1 HR HE
                have P2 := hid (Pm.refl El.dum a mid l1)
                have Q2 := hid (half1 SP.out (by omega))
                have S2 := S1
                have C2 := C1
                clear S1
                have P3 := hid (Pm.refl El.dum mid b l1)
                have Q3 := hid (half2 SP.out P2.out (by omega))
                have S3 := S2
                clear S2
                have FIN := hid (sym_fin P1.out SP.out (by omega) (by omega) P2.out P3.out Q2.out Q3.out)
                go_wp2
                go_end0
                exact ⟨rfl, l1, S3.out, FIN.out.1, FIN.out.2⟩
          · have c3 : mid ≤ s := by have := HK.out; omega
            have c4 : mid < en := by have := HK.out; omega
            have c5 : a < s := by omega
            have c6 : en < b := by have := HK.out; omega
            have SP := hid (HTriv.out (by omega)).2
            have P1 := hid (Pm.refl El.dum a b l)
            have S1 := HS
            have C1 := HC
            clear HS HI HTriv
            have P2 := hid (Pm.refl El.dum a mid l)
            have Q2 := hid (half1 SP.out (by omega))
            have S2 := S1
            have C2 := C1
            clear S1
            have HB := hid (IH.out mid en b l _ (by omega) S2.out C2.out (by omega) (by omega) (by omega) (SP.out.2.2.1.out P2.out (Or.inr (Nat.le_refl _))) (SP.out.2.2.2.1.out P2.out (Or.inr (by omega))))
            unfold SymC fnV at HB
            go_wp2_with fail
            refine HB.out.mono ?_
            rintro e w3 ⟨rfl, l3, hs3, hp3, hq3⟩
            have S3 := hid hs3
            have P3 := hid hp3
            have Q3 := hid hq3
            clear hs3 hp3 hq3 HB S2
            have FIN := hid (sym_fin P1.out SP.out (by omega) (by omega) P2.out P3.out Q2.out Q3.out)
            go_wp2
            go_end0
            exact ⟨rfl, l3, S3.out, FIN.out.1, FIN.out.2⟩
        · exfalso
          omega
  · have hdm : decide ((mid : Int) < (m : Int)) = false := decide_eq_false (by omega)
    have hx2 : ¬ (mid : Int) < (m : Int) := by omega
    have es0 := hid hy
    have HZ := hid hz
    clear hy hz
    go_enter Tryd.func45, Tryd.ntmps45
    go_wp2
    go_loopw [20, 21] (fun vs vr wr => ∃ (s r : Nat), vs = .int .i64 s ∧ vr = .int .i64 r ∧ s0 ≤ s ∧ s ≤ r ∧ r ≤ r0 ∧ Hid (SoW w0 B g n c l wr) ∧ Hid (SymI El.dum (ltE d) l s0 r0 (mid + m) s r)) (fun s r _ => (intOf r).toNat - (intOf s).toNat)
    case atStart => exact ⟨s0, r0, (by have := HNn.out; have := HS0.out; go_num), (by have := HS0.out; go_num), Nat.le_refl _, hs0r, Nat.le_refl _, H, hid ⟨⟨Nat.le_refl _, hs0r, Nat.le_refl _⟩, fun k _ _ => by omega, fun k _ _ => by omega⟩⟩
    case round =>
      obtain ⟨s, r, rfl, rfl, hs0s, hsr, hrr0, HS, HI⟩ := hrel
      clear H
      by_cases hlt : s < r
      · obtain ⟨q, hq⟩ : ∃ q, q = (s + r) / 2 := ⟨_, rfl⟩
        have eq : ((s : Int) + (r : Int)) / 2 = (q : Int) := by omega
        have hiq : s ≤ q := by omega
        have hqj : q < r := by omega
        obtain ⟨e, he⟩ : ∃ e, e = pn - q := ⟨_, rfl⟩
        have hep := HPn.out
        have hen := HNn.out
        have ee : (pn : Int) - (q : Int) = (e : Int) := by omega
        have re : IntKind.i64.wrap ((pn : Int) - (q : Int)) = (e : Int) := by rw [IntKind.wrap_i64]; omega
        have re2 : IntKind.i64.wrap (e : Int) = (e : Int) := by rw [IntKind.wrap_i64]; omega
        have he1 : e < b := by omega
        have he2 : m ≤ e := by omega
        have hA := HC.out.at HS.out (i := e) (j := q) (by omega) (by omega)
        have cp := HS.out.cell (k := e) (by omega)
        have cq := HS.out.cell (k := q) (by omega)
        have b1 : (q : Int) < (n : Int) := by omega
        have b2 : (e : Int) < (n : Int) := by omega
        obtain ⟨z, hz⟩ : ∃ z, rowCmp d (nth El.dum l e).r (nth El.dum l q).r = z := ⟨_, rfl⟩
        have hlz : ltE d (nth El.dum l e) (nth El.dum l q) = decide (z < 0) := by rw [← hz]; rfl
        rw [hz] at hA
        have HA := hid hA
        have HLZ := hid hlz
        have HQ := hid hq
        have HE := hid he
        have HEP := hid hep
        have HEN := hid hen
        clear hA hz hlz hq he hep hen
        by_cases hz0 : z < 0
        · have dz : decide (z < 0) = true := decide_eq_true hz0
          have I2 : Hid (SymI El.dum (ltE d) l s0 r0 (mid + m) s q) := hid ⟨⟨by omega, by omega, by omega⟩, HI.out.lo, fun k k1 k2 => (by
            have := HE.out
            have := HEP.out
            have := HEN.out
            have := HMid.out
            exact lt_up H2.out (p := mid + m - 1 - k) (q := e) (by omega) (by omega) (by omega) (gt_up H1.out (by omega) k1 (by omega) (HLZ.out.trans dz)))⟩
          clear HLZ HI HS HE HEP HEN
          generalize (nth El.dum l e).val = x at *
          generalize (nth El.dum l q).val = y at *
          go_wp2
          go_still_tail 11, (by kernel_rfl)
          change wpList _ _ _ _ _ wr.drew
          clear cp cq
          go_wp2_with fail
          refine HA.out.mono ?_
          rintro e w1 ⟨rfl, hs1⟩
          have S3 := hid hs1
          clear HA hs1
          go_wp2
          go_roundw
          case rel => exact ⟨s, q, rfl, rfl, hs0s, by omega, by omega, S3, I2⟩
          case measure => simp [intOf]; omega
        · have dz : decide (z < 0) = false := decide_eq_false hz0
          have I2 : Hid (SymI El.dum (ltE d) l s0 r0 (mid + m) (q + 1) r) := hid ⟨⟨by omega, by omega, by omega⟩, fun k k1 k2 => (by
            have := HE.out
            have := HEP.out
            have := HEN.out
            have := HMid.out
            exact ge_up H2.out (p := e) (q := mid + m - 1 - k) (by omega) (by omega) (by omega) (le_dn H1.out (p := k) (q := q) (by omega) (by omega) (by omega) (HLZ.out.trans dz))), HI.out.hi⟩
          clear HLZ HI HS HE HEP HEN
          generalize (nth El.dum l e).val = x at *
          generalize (nth El.dum l q).val = y at *
          go_wp2
          go_still_tail 11, (by kernel_rfl)
          change wpList _ _ _ _ _ wr.drew
          clear cp cq
          go_wp2_with fail
          refine HA.out.mono ?_
          rintro e w1 ⟨rfl, hs1⟩
          have S3 := hid hs1
          clear HA hs1
          go_wp2
          go_roundw
          case rel => exact ⟨q + 1, r, by go_num, rfl, by omega, by omega, hrr0, S3, I2⟩
          case measure => simp [intOf]; omega
      · have hsr2 : s = r := by omega
        subst hsr2
        obtain ⟨en, hen⟩ : ∃ q, q = mid + m - s := ⟨_, rfl⟩
        have een : (nn : Int) - (s : Int) = (en : Int) := by have := HNn.out; omega
        have HEn := hid hen
        have hms : s ≤ m := by omega
        have hds : s ≤ mid := by omega
        have hme : m ≤ en := by omega
        have hde : mid ≤ en := by omega
        have heb : en ≤ b := by have := HNn.out; omega
        have hk1 : en + s = mid + m := by omega
        have HTriv : Hid ((m - s = 0 ∨ en - m = 0) → (a ≤ s ∧ s ≤ m ∧ s ≤ mid ∧ m ≤ en ∧ en ≤ b ∧ mid ≤ en) ∧ SplitOk d a s mid en b l) := hid (fun h0 => split_ok (by omega) (by omega) HMid.out HS0.out HEn.out H1.out H2.out HI.out (fun t => rot_none h0))
        have HK := hid hk1
        clear hen hk1
        by_cases c1 : s < m
        · by_cases c2 : m < en
          · have c3 : s < mid := by have := HK.out; omega
            have c4 : mid < en := by have := HK.out; omega
            by_cases c5 : a < s
            · by_cases c6 : en < b
              · have HR := hid (rotate_rows w0 B g n c s m en l (fnV bx) wr HS.out hn (by omega) (by omega) (by omega))
                have HE := hid (fun l1 he => split_ok (l1 := l1) (en := en) (by omega) (by omega) HMid.out HS0.out HEn.out H1.out H2.out HI.out he)
                clear HS HI HTriv
                unfold fnV at HR
                go_wp2_with fail
                refine HR.out.mono ?_
                rintro e w1 ⟨rfl, l1, hs1, hp1, ht1⟩
                have SP := hid (HE.out l1 ht1).2
                have P1 := hid (hp1.mono (a' := a) (b' := b) (by omega) (by omega))
                have S1 := hid hs1
                have C1 := hid (HC.out.perm hp1.1)
                clear hs1 hp1 ht1 HR HE
                have HA := hid (IH.out a s mid l1 _ (by omega) S1.out C1.out (by omega) (by omega) (by omega) SP.out.1 SP.out.2.1)
                unfold SymC fnV at HA
                go_wp2_with fail
                refine HA.out.mono ?_
                rintro e w2 ⟨rfl, l2, hs2, hp2, hq2⟩
                have S2 := hid hs2
                have P2 := hid hp2
                have Q2 := hid hq2
                have C2 := hid (C1.out.perm hp2.1)
                clear hs2 hp2 hq2 HA S1
                have HB := hid (IH.out mid en b l2 _ (by omega) S2.out C2.out (by omega) (by omega) (by omega) (SP.out.2.2.1.out P2.out (Or.inr (Nat.le_refl _))) (SP.out.2.2.2.1.out P2.out (Or.inr (by omega))))
                unfold SymC fnV at HB
                go_wp2_with fail
                refine HB.out.mono ?_
                rintro e w3 ⟨rfl, l3, hs3, hp3, hq3⟩
                have S3 := hid hs3
                have P3 := hid hp3
                have Q3 := hid hq3
                clear hs3 hp3 hq3 HB S2
                have FIN := hid (sym_fin P1.out SP.out (by omega) (by omega) P2.out P3.out Q2.out Q3.out)
                go_wp2
                go_end0
                exact ⟨rfl, l3, S3.out, FIN.out.1, FIN.out.2⟩
              · have HR := hid (rotate_rows w0 B g n c s m en l (fnV bx) wr HS.out hn (by omega) (by omega) (by omega))
                have HE := hid (fun l1 he => split_ok (l1 := l1) (en := en) (by omega) (by omega) HMid.out HS0.out HEn.out H1.out H2.out HI.out he)
                clear HS HI HTriv
                unfold fnV at HR
                go_wp2_with fail
                refine HR.out.mono ?_
                rintro e w1 ⟨rfl, l1, hs1, hp1, ht1⟩
                have SP := hid (HE.out l1 ht1).2
                have P1 := hid (hp1.mono (a' := a) (b' := b) (by omega) (by omega))
                have S1 := hid hs1
                have C1 := hid (HC.out.perm hp1.1)
                clear hs1 hp1 ht1 HR HE
                have HA := hid (IH.out a s mid l1 _ (by omega) S1.out C1.out (by omega) (by omega) (by omega) SP.out.1 SP.out.2.1)
                unfold SymC fnV at HA
                go_wp2_with fail
                refine HA.out.mono ?_
                rintro e w2 ⟨rfl, l2, hs2, hp2, hq2⟩
                have S2 := hid hs2
                have P2 := hid hp2
                have Q2 := hid hq2
                have C2 := hid (C1.out.perm hp2.1)
                clear hs2 hp2 hq2 HA S1
                have P3 := hid (Pm.refl El.dum mid b l2)
                have Q3 := hid (half2 SP.out P2.out (by omega))
                have S3 := S2
                clear S2
                have FIN := hid (sym_fin P1.out SP.out (by omega) (by omega) P2.out P3.out Q2.out Q3.out)
                go_wp2
                go_end0
                exact ⟨rfl, l2, S3.out, FIN.out.1, FIN.out.2⟩
            · by_cases c6 : en < b
              · have HR := hid (rotate_rows w0 B g n c s m en l (fnV bx) wr HS.out hn (by omega) (by omega) (by omega))
                have HE := hid (fun l1 he => split_ok (l1 := l1) (en := en) (by omega) (by omega) HMid.out HS0.out HEn.out H1.out H2.out HI.out he)
                clear HS HI HTriv
                unfold fnV at HR
                go_wp2_with fail
                refine HR.out.mono ?_
                rintro e w1 ⟨rfl, l1, hs1, hp1, ht1⟩
                have SP := hid (HE.out l1 ht1).2
                have P1 := hid (hp1.mono (a' := a) (b' := b) (by omega) (by omega))
                have S1 := hid hs1
                have C1 := hid (HC.out.perm hp1.1)
                clear hs1 hp1 ht1 HR HE
                have P2 := hid (Pm.refl El.dum a mid l1)
                have Q2 := hid (half1 SP.out (by omega))
                have S2 := S1
                have C2 := C1
                clear S1
                have HB := hid (IH.out mid en b l1 _ (by omega) S2.out C2.out (by omega) (by omega) (by omega) (SP.out.2.2.1.out P2.out (Or.inr (Nat.le_refl _))) (SP.out.2.2.2.1.out P2.out (Or.inr (by omega))))
                unfold SymC fnV at HB
                go_wp2_with fail
                refine HB.out.mono ?_
                rintro e w3 ⟨rfl, l3, hs3, hp3, hq3⟩
                have S3 := hid hs3
                have P3 := hid hp3
                have Q3 := hid hq3
                clear hs3 hp3 hq3 HB S2
                have FIN := hid (sym_fin P1.out SP.out (by omega) (by omega) P2.out P3.out Q2.out Q3.out)
                go_wp2
                go_end0
                exact ⟨rfl, l3, S3.out, FIN.out.1, FIN.out.2⟩
              · have HR := hid (rotate_rows w0 B g n c s m en l (fnV bx) wr HS.out hn (by omega) (by omega) (by omega))
                have HE := hid (fun l1 he => split_ok (l1 := l1) (en := en) (by omega) (by omega) HMid.out HS0.out HEn.out H1.out H2.out HI.out he)
                clear HS HI HTriv
                unfold fnV at HR
                go_wp2_with fail
                refine HR.out.mono ?_
                rintro e w1 ⟨rfl, l1, hs1, hp1, ht1⟩
                have SP := hid (HE.out l1 ht1).2
                have P1 := hid (hp1.mono (a' := a) (b' := b) (by omega) (by omega))
                have S1 := hid hs1
                have C1 := hid (HC.out.perm hp1.1)
                clear hs1 hp1 ht1 HR HE
                have P2 := hid (Pm.refl El.dum a mid l1)
                have Q2 := hid (half1 SP.out (by omega))
                have S2 := S1
                have C2 := C1
                clear S1
                have P3 := hid (Pm.refl El.dum mid b l1)
                have Q3 := hid (half2 SP.out P2.out (by omega))
                have S3 := S2
                clear S2
                have FIN := hid (sym_fin P1.out SP.out (by omega) (by omega) P2.out P3.out Q2.out Q3.out)
                go_wp2
                go_end0
                exact ⟨rfl, l1, S3.out, FIN.out.1, FIN.out.2⟩
          · have c3 : mid ≤ s := by have := HK.out; omega
            have c4 : mid < en := by have := HK.out; omega
            have c5 : a < s := by omega
            have c6 : en < b := by have := HK.out; omega
            exfalso
            omega
        · have c4 : en ≤ mid := by have := HK.out; omega
          have c5 : a < s := by omega
          by_cases c3 : s < mid
          · have SP := hid (HTriv.out (by omega)).2
            have P1 := hid (Pm.refl El.dum a b l)
            have S1 := HS
            have C1 := HC
            clear HS HI HTriv
            have HA := hid (IH.out a s mid l _ (by omega) S1.out C1.out (by omega) (by omega) (by omega) SP.out.1 SP.out.2.1)
            unfold SymC fnV at HA
            go_wp2_with fail
            refine HA.out.mono ?_
            rintro e w2 ⟨rfl, l2, hs2, hp2, hq2⟩
            have S2 := hid hs2
            have P2 := hid hp2
            have Q2 := hid hq2
            have C2 := hid (C1.out.perm hp2.1)
            clear hs2 hp2 hq2 HA S1
            have P3 := hid (Pm.refl El.dum mid b l2)
            have Q3 := hid (half2 SP.out P2.out (by omega))
            have S3 := S2
            clear S2
            have FIN := hid (sym_fin P1.out SP.out (by omega) (by omega) P2.out P3.out Q2.out Q3.out)
            go_wp2
            go_end0
            exact ⟨rfl, l2, S3.out, FIN.out.1, FIN.out.2⟩
          · have SP := hid (HTriv.out (by omega)).2
            have P1 := hid (Pm.refl El.dum a b l)
            have S1 := HS
            have C1 := HC
            clear HS HI HTriv
            have P2 := hid (Pm.refl El.dum a mid l)
            have Q2 := hid (half1 SP.out (by omega))
            have S2 := S1
            have C2 := C1
            clear S1
            have P3 := hid (Pm.refl El.dum mid b l)
            have Q3 := hid (half2 SP.out P2.out (by omega))
            have S3 := S2
            clear S2
            have FIN := hid (sym_fin P1.out SP.out (by omega) (by omega) P2.out P3.out Q2.out Q3.out)
            go_wp2
            go_end0
            exact ⟨rfl, l, S3.out, FIN.out.1, FIN.out.2⟩
theorem sym_all (w0 : World) (B g n c bx : Nat) (d : List Bool) (hn : n ≤ 100000) : ∀ (N a m b : Nat) (l : List El) (w : World), b - a ≤ N → SoW w0 B g n c l w → CmpOk w0 g bx d l → a < m → m < b → b ≤ n → Srt El.dum (ltE d) a m l → Srt El.dum (ltE d) m b l → SymC w0 B g n c bx d a m b l w
  | 0, a, m, b, _, _, hN, _, _, h1, h2, _, _, _ => by omega
  | N + 1, a, m, b, l, w, hN, hs, hc, h1, h2, hb, s1, s2 => by
    by_cases c1 : m ≤ a + 1
    · exact sym_first w0 B g n c a m b bx d l w hs hc hn c1 (by omega) h2 hb s2
    · by_cases c2 : b ≤ m + 1
      · exact sym_last w0 B g n c a m b bx d l w hs hc hn (by omega) h2 c2 hb s1
      · exact sym_step w0 B g n c a m b bx d l w hs hc hn (by omega) (by omega) hb s1 s2 (fun a' m' b' l' W hlt hs' hc' k1 k2 k3 k4 k5 => sym_all w0 B g n c bx d hn N a' m' b' l' W (by omega) hs' hc' k1 k2 k3 k4 k5)
end Go.Proofs.YtaghaigckgckpaaDoor
