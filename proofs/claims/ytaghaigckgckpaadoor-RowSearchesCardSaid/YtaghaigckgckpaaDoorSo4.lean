/-
  WALKS: slices.symMergeCmpFunc at rows: one element merged into the rest behind it.
-/
import Derived.Test.YtaghaigckgckpaaDoorSo3
namespace Go.Proofs.YtaghaigckgckpaaDoor
open Go.RowKit

theorem lt_up {d : List Bool} {l : List El} {a b p q : Nat} {x : El} (h : Srt El.dum (ltE d) a b l) (hp : a ≤ p) (hpq : p ≤ q) (hq : q < b) (hlt : ltE d (nth El.dum l q) x = true) : ltE d (nth El.dum l p) x = true := by
  have o := ltE_ord d
  cases e : ltE d (nth El.dum l p) x with
  | true => rfl
  | false =>
    have := o.tr _ _ _ e (h.le o hp hpq hq)
    rw [this] at hlt
    exact hlt
theorem ge_up {d : List Bool} {l : List El} {a b p q : Nat} {x : El} (h : Srt El.dum (ltE d) a b l) (hp : a ≤ p) (hpq : p ≤ q) (hq : q < b) (hlt : ltE d (nth El.dum l p) x = false) : ltE d (nth El.dum l q) x = false :=
  (ltE_ord d).tr _ _ _ hlt (h.le (ltE_ord d) hp hpq hq)

set_option maxRecDepth 100000 in
set_option maxHeartbeats 4000000 in
theorem sym_first (w0 : World) (B g n c a m b bx : Nat) (d : List Bool) (l : List El) (w : World) (h : SoW w0 B g n c l w) (hc : CmpOk w0 g bx d l) (hn : n ≤ 100000) (hm : m ≤ a + 1) (ham : a + 1 ≤ m) (hmb : m < b) (hb : b ≤ n) (h2 : Srt El.dum (ltE d) m b l) :
    Calls Tryd.prog 45 #[.slice (some ⟨g, 0, none⟩) n c, .int .i64 a, .int .i64 m, .int .i64 b, fnV bx] w fun e w' => e = .returned (.tuple #[]) ∧ ∃ l', SoW w0 B g n c l' w' ∧ Pm El.dum a b l l' ∧ Srt El.dum (ltE d) a b l' := by
  have H := hid h
  have HC := hid hc
  have H2 := hid h2
  have hl := h.len
  have HL := hid hl
  clear h hc h2 hl
  have hd1 : (((m : Int) - (a : Int)) == 1) = true := by simp; omega
  unfold fnV
  go_enter Tryd.func45, Tryd.ntmps45
  go_wp2
  go_loopw [10, 11] (fun vi vj wr => ∃ (i j : Nat), vi = .int .i64 i ∧ vj = .int .i64 j ∧ m ≤ i ∧ i ≤ j ∧ j ≤ b ∧ Hid (SoW w0 B g n c l wr) ∧ Hid (∀ k, m ≤ k → k < i → ltE d (nth El.dum l k) (nth El.dum l a) = true) ∧ Hid (∀ k, j ≤ k → k < b → ltE d (nth El.dum l k) (nth El.dum l a) = false)) (fun i j _ => (intOf j).toNat - (intOf i).toNat)
  case atStart => exact ⟨m, b, rfl, rfl, by omega, by omega, by omega, H, hid (fun k _ _ => by omega), hid (fun k _ _ => by omega)⟩
  case round =>
    obtain ⟨i, j, rfl, rfl, hmi, hij, hjb, HS, HLo, HHi⟩ := hrel
    clear H
    by_cases hlt : i < j
    · obtain ⟨q, hq⟩ : ∃ q, q = (i + j) / 2 := ⟨_, rfl⟩
      have eq : ((i : Int) + (j : Int)) / 2 = (q : Int) := by omega
      have hiq : i ≤ q := by omega
      have hqj : q < j := by omega
      have hA := HC.out.at HS.out (i := q) (j := a) (by omega) (by omega)
      have cp := HS.out.cell (k := q) (by omega)
      have cq := HS.out.cell (k := a) (by omega)
      have b1 : (q : Int) < (n : Int) := by omega
      have b2 : (a : Int) < (n : Int) := by omega
      obtain ⟨z, hz⟩ : ∃ z, rowCmp d (nth El.dum l q).r (nth El.dum l a).r = z := ⟨_, rfl⟩
      have hlz : ltE d (nth El.dum l q) (nth El.dum l a) = decide (z < 0) := by rw [← hz]; rfl
      rw [hz] at hA
      have HA := hid hA
      have HLZ := hid hlz
      have HQ := hid hq
      clear hA hz hlz hq
      by_cases hz0 : z < 0
      · have dz : decide (z < 0) = true := decide_eq_true hz0
        have L2 : Hid (∀ k, m ≤ k → k < q + 1 → ltE d (nth El.dum l k) (nth El.dum l a) = true) := hid (fun k h1 h2 => lt_up H2.out h1 (by omega) (by omega) (HLZ.out.trans dz))
        clear HLZ HLo HS
        generalize (nth El.dum l q).val = x at *
        generalize (nth El.dum l a).val = y at *
        go_wp2
        go_still_tail 9, (by kernel_rfl)
        change wpList _ _ _ _ _ wr.drew
        clear cp cq
        go_wp2_with fail
        refine HA.out.mono ?_
        rintro e w1 ⟨rfl, hs1⟩
        have S3 := hid hs1
        clear HA hs1
        go_wp2
        go_roundw
        case rel => exact ⟨q + 1, j, by go_num, rfl, by omega, by omega, hjb, S3, L2, HHi⟩
        case measure => simp [intOf]; omega
      · have dz : decide (z < 0) = false := decide_eq_false hz0
        have L2 : Hid (∀ k, q ≤ k → k < b → ltE d (nth El.dum l k) (nth El.dum l a) = false) := hid (fun k h1 h2 => ge_up H2.out (by omega) h1 h2 (HLZ.out.trans dz))
        clear HLZ HHi HS
        generalize (nth El.dum l q).val = x at *
        generalize (nth El.dum l a).val = y at *
        go_wp2
        go_still_tail 9, (by kernel_rfl)
        change wpList _ _ _ _ _ wr.drew
        clear cp cq
        go_wp2_with fail
        refine HA.out.mono ?_
        rintro e w1 ⟨rfl, hs1⟩
        have S3 := hid hs1
        clear HA hs1
        go_wp2
        go_roundw
        case rel => exact ⟨i, q, rfl, rfl, hmi, by omega, by omega, S3, HLo, L2⟩
        case measure => simp [intOf]; omega
    · have hij2 : j ≤ i := by omega
      have HHi2 : Hid (∀ k, i ≤ k → k < b → ltE d (nth El.dum l k) (nth El.dum l a) = false) := hid (fun k h1 h2 => HHi.out k (by omega) h2)
      have HMg := hid (fun (l' : List El) (he : ∀ t, nth El.dum l' t = sftF (nth El.dum l) a (i - 1) t) => merge_one (l' := l') (ltE_ord d) (a := a) (i := i) (b := b) (H2.out.mono (by omega) (by omega)) (by omega) (by omega) (fun k h1 h2 => HLo.out k (by omega) h2) HHi2.out he)
      clear HHi HHi2 HLo
      rename World => wo
      go_wp2
      go_loopw [13] (fun vk wr => ∃ (k : Nat) (lk : List El), vk = .int .i64 k ∧ a ≤ k ∧ k ≤ i - 1 ∧ Hid (SoW w0 B g n c lk wr) ∧ Hid (Pm El.dum a b l lk) ∧ Hid (∀ t, nth El.dum lk t = sftF (nth El.dum l) a k t)) (fun k _ => i - (intOf k).toNat)
      case atStart => exact ⟨a, l, rfl, by omega, by omega, HS, hid (Pm.refl _ _ _ _), hid (fun t => by
        unfold sftF
        rw [if_neg (by omega)]
        split
        · rename_i e; rw [e]
        · rfl)⟩
      case round =>
        obtain ⟨k, lk, rfl, hak, hki, HS1, HP1, HT1⟩ := hrel
        clear HS
        have hl := HS1.out.len
        by_cases hki2 : k < i - 1
        · obtain ⟨p, hp⟩ : ∃ p, p = k + 1 := ⟨_, rfl⟩
          have ep : (k : Int) + 1 = (p : Int) := by omega
          have rp : IntKind.i64.wrap ((k : Int) + 1) = (p : Int) := by rw [IntKind.wrap_i64]; omega
          have rp2 : IntKind.i64.wrap (p : Int) = (p : Int) := by rw [IntKind.wrap_i64]; omega
          have cp := HS1.out.cell (k := k) (by omega)
          have cq := HS1.out.cell (k := p) (by omega)
          have fp := HS1.out.frozen k
          have fq := HS1.out.frozen p
          have S2 := hid (HS1.out.swap k p).drew
          have P2 := hid (HP1.out.trans (Pm.swp (i := k) (j := p) (by omega) (by omega) (by omega) (by omega) (by omega) (by omega)))
          have T2 : Hid (∀ t, nth El.dum (swp El.dum lk k p) t = sftF (nth El.dum l) a (k + 1) t) := hid (fun t => by
            rw [nth_swp (by omega) (by omega), hp]; exact sft_step HT1.out hak)
          obtain ⟨u, cu⟩ := HS1.out.second k p (by omega) (by omega) (nth El.dum lk p).val
          have b1 : (k : Int) < (n : Int) := by omega
          have b2 : (p : Int) < (n : Int) := by omega
          have Hp := hid hp
          clear HS1 HP1 HT1 hl hp
          generalize nth El.dum lk k = x at *
          generalize nth El.dum lk p = y at *
          simp only [El.val] at cp cq cu S2
          have hgt : (k : Int) < (i : Int) - 1 := by omega
          go_wp2
          go_big_region
          clear cp cq cu fp fq
          generalize ((wr.setCell ⟨g, k, none⟩ (.slice y.A y.r.length y.c)).setCell ⟨g, p, none⟩ (.slice x.A x.r.length x.c)).drew = w3 at S2 ⊢
          go_wp2
          go_roundw
          case rel => exact ⟨k + 1, _, by go_num, by omega, by omega, S2, P2, T2⟩
          case measure => simp [intOf]; omega
        · have ek : k = i - 1 := by omega
          have M2 := hid (HMg.out lk (by rw [← ek]; exact HT1.out))
          have hgt : (i : Int) - 1 ≤ (k : Int) := by omega
          clear HMg HT1 ek
          go_wp2
          (try simp only [Exit.inBlock, Exit.then])
          refine bodyPost_ret (results_none rfl _ _ _) rfl ?_
          exact ⟨rfl, lk, HS1.out, HP1.out, M2.out⟩
end Go.Proofs.YtaghaigckgckpaaDoor
