/-
  PARTS of a claim, merged by segs.py: Sk8.
-/
import Derived.Test.YtjhnopnppimnhaaGreatDoorZ32
import Derived.Deep.QuietTactic
namespace Go.Proofs.YtjhnopnppimnhaaGreatDoor

/-! ### Sk8 -/
section
open Go.RowKit

def shutAt (l : Str) (q : Bool) (k : Nat) : Option Nat := (shutGo q (l.drop k)).map (· + k)
section
variable {l : Str} {k : Nat}
theorem shut_zero (l : Str) (q : Bool) : shutAt l q 0 = shutGo q l := by
  unfold shutAt
  rw [List.drop_zero]
  cases shutGo q l <;> rfl
theorem shut_out (h : l.length ≤ k) (q : Bool) : shutAt l q k = none := by
  unfold shutAt
  rw [List.drop_eq_nil_of_le h]
  unfold shutGo; rfl
theorem map_add (o : Option Nat) (a k : Nat) : (o.map (· + a)).map (· + k) = o.map (· + (k + a)) := by
  cases o with
  | none => rfl
  | some n => simp only [Option.map_some]; congr 1; omega
theorem shut_esc (h : k < l.length) (hb : l[k] = 92) : shutAt l true k = shutAt l true (k + 2) := by
  unfold shutAt
  rw [List.drop_eq_getElem_cons h, hb]
  by_cases h2 : k + 1 < l.length
  · rw [List.drop_eq_getElem_cons h2]
    conv => lhs; unfold shutGo
    rw [if_pos ⟨rfl, rfl⟩, map_add]
  · rw [List.drop_eq_nil_of_le (show l.length ≤ k + 1 by omega), List.drop_eq_nil_of_le (show l.length ≤ k + 2 by omega)]
    conv => lhs; unfold shutGo
    rw [if_pos ⟨rfl, rfl⟩]
    unfold shutGo; rfl
theorem shut_quo (h : k < l.length) (hb : l[k] = 34) (q : Bool) : shutAt l q k = shutAt l (!q) (k + 1) := by
  unfold shutAt
  rw [List.drop_eq_getElem_cons h, hb]
  conv => lhs; unfold shutGo
  rw [if_neg (by rintro ⟨_, e⟩; exact absurd e (by decide)), if_pos rfl, map_add]
theorem shut_end (h : k < l.length) (hb : l[k] = 41) : shutAt l false k = some (k + 1) := by
  unfold shutAt
  rw [List.drop_eq_getElem_cons h, hb]
  conv => lhs; unfold shutGo
  rw [if_neg (by rintro ⟨e, _⟩; exact absurd e (by decide)), if_neg (by decide), if_pos ⟨rfl, rfl⟩]
  simp only [Option.map_some]; congr 1; omega
theorem shut_on (h : k < l.length) {q : Bool} (h1 : ¬ (q = true ∧ l[k] = 92)) (h2 : l[k] ≠ 34) (h3 : ¬ (q = false ∧ l[k] = 41)) : shutAt l q k = shutAt l q (k + 1) := by
  unfold shutAt
  rw [List.drop_eq_getElem_cons h]
  conv => lhs; unfold shutGo
  rw [if_neg h1, if_neg h2, if_neg h3, map_add]
end
theorem ne8 {c d : UInt8} {m : Int} (h : c ≠ d) (hm : (d.toNat : Int) = m) : ((c.toNat : Int) == m) = false := by
  rw [beq_eq_false_iff_ne, ← hm]
  intro e
  exact h (UInt8.toNat.inj (by omega))
section
variable {sp : Nat} {s : Sn} {w : World}
theorem rqb_none {x : Sn × Int} (he : s.ended = false) (h : shutAt s.rest false 0 = none) (hx : s.rqbS = x) : x = (s, 15) := by
  rw [← hx]
  rw [shut_zero] at h
  unfold Sn.rqbS
  rw [he, if_neg (by decide), h]
theorem rqb_some {x : Sn × Int} (he : s.ended = false) {n : Nat} (h : shutAt s.rest false 0 = some n) (hx : s.rqbS = x) : (if s.rest.drop n = [] ∨ (s.rest.drop n).getD 0 0 ≠ 32 then (s, 15) else Sn.setRow ⟨(s.rest.drop n).drop 1, s.ended, s.c⟩ (s.rest.take n)) = x := by
  rw [← hx]
  rw [shut_zero] at h
  unfold Sn.rqbS
  rw [he, if_neg (show ¬ (false = true) by decide), h]

set_option maxRecDepth 100000 in
set_option maxHeartbeats 4000000 in
theorem skn_rowBefore (h : SW sp s w) (hB : ∃ w0 : World, Env w0 ∧ w0.heap.size ≤ sp ∧ Below w0.heap.size w0 w) {x : Sn × Int} (hx : s.rqbS = x) :
    Calls Tryz.prog 46 #[.pointer (some ⟨sp, 0, none⟩)] w (RetSc sp w x) := by
  have HS := hid h
  have hlt := h.lt
  obtain ⟨c0, c1, -, -, -, fz⟩ := h.cells
  obtain ⟨w0, hE0, hl0, hb0⟩ := hB
  cases he : s.ended with
  | true =>
    rw [he] at c1
    have hxx : x = (s, 15) := by rw [← hx]; unfold Sn.rqbS; rw [he, if_pos rfl]
    subst hxx
    clear h hx he hE0 hb0 fz
    go_enter Tryz.func46, Tryz.ntmps46
    go_wp2
    go_ret
    exact ⟨rfl, HS.out, ScC.refl _ _⟩
  | false =>
    rw [he] at c1
    have hfew := h.few
    have hlr := left_rest he
    obtain ⟨R, hR⟩ : ∃ R : ByteArray, (⟨s.rest.toArray⟩ : ByteArray) = R := ⟨_, rfl⟩
    have hRl : R.data.toList = s.rest := by rw [← hR]
    have hRs : R.size = s.rest.length := by rw [← hR]; simp [ByteArray.size]
    have hRs2 : R.size ≤ 65536 := by omega
    rw [hR] at c0
    have HX := hid hx
    have HN := hid (fun (h : shutAt s.rest false 0 = none) => rqb_none he h hx)
    have HSo := hid (fun n (h : shutAt s.rest false 0 = some n) => rqb_some he h hx)
    have HRl := hid hRl
    have HR2 := hid hRs
    have HFew := hid (And.intro hfew hlr)
    have HEn := hid (And.intro hE0 (And.intro hl0 hb0))
    have HHe := hid he
    have hR' := hid hR
    have f0 := fz 0
    clear h hx he hE0 hb0 hl0 fz hR hRl hRs hfew hlr
    go_enter Tryz.func46, Tryz.ntmps46
    go_wp2
    go_loop [3, 4] (fun q i => ∃ (b : Bool) (k : Nat), q = .bool b ∧ i = .int .i64 k ∧ k ≤ R.size + 1 ∧ Hid (shutAt s.rest b k = shutAt s.rest false 0)) (fun _ i => R.size + 2 - (intOf i).toNat)
    case atStart => exact ⟨false, 0, rfl, rfl, by omega, hid rfl⟩
    case round =>
      obtain ⟨b, k, rfl, rfl, hk, HK⟩ := hrel
      by_cases hlt2 : k < R.size
      · have hl : k < s.rest.length := by rw [← HR2.out]; exact hlt2
        have hg : s.rest[k]'hl = R[k]'hlt2 := by
          have e1 : R.data.toList[k]'(by rw [HRl.out]; exact hl) = R[k]'hlt2 := rfl
          rw [← e1]; congr 1; exact HRl.out.symm
        have HK0 := hid HK.out
        by_cases h92 : b = true ∧ (R[k]'hlt2) = 92
        · obtain ⟨rfl, h92⟩ := h92
          have e92 : (((R[k]'hlt2).toNat : Int) == 92) = true := by rw [h92]; rfl
          have HK2 : Hid (shutAt s.rest true (k + 2) = shutAt s.rest false 0) := hid (by rw [← HK.out]; exact (shut_esc hl (by rw [hg]; exact h92)).symm)
          clear HK HK0 hg hl h92 HX HN HSo
          go_wp2
          go_round
          case rel => exact ⟨true, k + 2, rfl, by go_num, by omega, HK2⟩
          case measure => simp [intOf]; omega
        · by_cases h34 : (R[k]'hlt2) = 34
          · have e34 : (((R[k]'hlt2).toNat : Int) == 34) = true := by rw [h34]; rfl
            have e92 : (((R[k]'hlt2).toNat : Int) == 92) = false := by rw [h34]; rfl
            have HK2 : Hid (shutAt s.rest (!b) (k + 1) = shutAt s.rest false 0) := hid (by rw [← HK.out]; exact (shut_quo hl (by rw [hg]; exact h34) b).symm)
            clear HK HK0 hg hl h92 h34 HX HN HSo
            cases b <;>
            · go_wp2
              go_round
              case rel => exact ⟨_, k + 1, rfl, by go_num, by omega, HK2⟩
              case measure => simp [intOf]; omega
          · by_cases h41 : b = false ∧ (R[k]'hlt2) = 41
            · obtain ⟨rfl, h41⟩ := h41
              have e34 : (((R[k]'hlt2).toNat : Int) == 34) = false := ne8 h34 rfl
              have e41 : (((R[k]'hlt2).toNat : Int) == 41) = true := by rw [h41]; rfl
              have hxx := HSo.out (k + 1) (by rw [← HK.out]; exact shut_end hl (by rw [hg]; exact h41))
              obtain ⟨T, hT⟩ : ∃ T : ByteArray, R.extract 0 (k + 1) = T := ⟨_, rfl⟩
              obtain ⟨D, hD⟩ : ∃ D : ByteArray, R.extract (k + 1) R.size = D := ⟨_, rfl⟩
              have hDl : s.rest.drop (k + 1) = D.data.toList := by rw [← HRl.out, ← hD, drop_extract]
              have hTl : s.rest.take (k + 1) = T.data.toList := by rw [← HRl.out, ← hT, cut_list]
              have hDs : D.size = R.size - (k + 1) := by rw [← hD]; simp
              have hTs : T.size ≤ 100000 := by rw [← hT]; simp; omega
              have tl : D.toList = D.data.toList := Lib.toList_data _
              rw [hDl, hTl] at hxx
              have b1 : (k : Int) + 1 ≤ R.size := by omega
              have b3 : ((k : Int) + 1).toNat = k + 1 := by omega
              have b4 : (0 : Int) ≤ (k : Int) + 1 := by omega
              have hDs2 := hid hDs
              have hlD := hid (show D.data.toList.length = D.size by simp)
              clear HX HN HSo HK HK0 hg h34 h41 hDs
              by_cases hD0 : D.data.toList = []
              · rw [if_pos (.inl hD0)] at hxx
                subst hxx
                have eD : D.toList.isEmpty = true := by rw [tl, hD0]; rfl
                clear tl hD0 hDl hTl hlD
                go_wp2_with fail
                go_quiet (fail)
                go_wp2
                go_ret
                exact ⟨rfl, HS.out.below (below_drewN (Below.refl _ _) _), scc_below (below_drewN (Below.refl _ _) _)⟩
              · have eD : D.toList.isEmpty = false := by rw [tl]; simpa using hD0
                have hpos : 0 < D.size := by have := List.length_pos_iff.2 hD0; rw [hlD.out] at this; exact this
                have hg0 : D.data.toList.getD 0 0 = D[0]'hpos := getD_of hpos
                rw [hg0] at hxx
                by_cases h32 : (D[0]'hpos) = 32
                · rw [if_neg (fun e => e.elim hD0 (fun e => e h32))] at hxx
                  have e32 : (((D[0]'hpos).toNat : Int) != 32) = false := by rw [h32]; rfl
                  obtain ⟨E, hE⟩ : ∃ E : ByteArray, D.extract 1 D.size = E := ⟨_, rfl⟩
                  have hEl : D.data.toList.drop 1 = E.data.toList := by rw [← hE, drop_extract]
                  rw [hEl] at hxx
                  have hfw : s.c.nums.length + (Sn.left ⟨E.data.toList, s.ended, s.c⟩).length ≤ 65537 := by
                    have h1 := HFew.out.1
                    have h2 := HFew.out.2
                    have h3 := hDs2.out
                    have h4 : E.data.toList.length ≤ D.size := by rw [← hEl, List.length_drop, hlD.out]; omega
                    have h5 := HR2.out
                    rw [left_rest (s := ⟨E.data.toList, s.ended, s.c⟩) HHe.out]
                    simp only
                    omega
                  have HP := fun V (p : SW sp s V) => hid (p.put_rest E.data.toList hfw)
                  simp only [arr_b] at HP
                  have HSet := fun V (p : SW sp ⟨E.data.toList, s.ended, s.c⟩ V) (q : Env V) => hid (skn_setRow T hTs p q hxx)
                  have HE2 := hid (fun V (k : ScC sp w V) => HEn.out.1.below (HEn.out.2.2.trans (k.below HEn.out.2.1 HEn.out.2.2.size)))
                  clear tl hD0 hDl hTl hlD hg0 h32 hEl hxx hfw
                  go_wp2_with fail
                  go_quiet (fail)
                  have hl3 : sp < (w.drewN nq).heap.size := hlt
                  obtain ⟨d0, -, -, -, -, fz⟩ := (HS.out.below (below_drewN (Below.refl _ _) nq)).cells
                  rw [hR'.out] at d0
                  have f3 := fz 0
                  have P1 := HP _ (HS.out.below (below_drewN (Below.refl _ _) nq))
                  have K1 := (scc_below (sp := sp) (below_drewN (Below.refl w.heap.size w) nq)).set 0 (.string E)
                  have H9 := hid (HSet _ P1.out (HE2.out _ K1))
                  have HK1 := hid K1
                  clear fz P1 K1 HSet HP HE2 HEn HFew
                  go_wp2_with fail
                  refine H9.out.out.mono ?_
                  rintro e w2 ⟨rfl, p2, k2⟩
                  have P2 := hid (And.intro p2 (HK1.out.trans k2))
                  clear H9 p2 k2
                  go_wp2
                  go_ret
                  exact ⟨rfl, P2.out.1, P2.out.2⟩
                · rw [if_pos (.inr h32)] at hxx
                  subst hxx
                  have e32 : (((D[0]'hpos).toNat : Int) != 32) = true := by
                    have := ne8 h32 (m := 32) rfl
                    simp only [bne, this]; rfl
                  clear tl hD0 hDl hTl hlD hg0 h32
                  go_wp2_with fail
                  go_quiet (fail)
                  go_wp2
                  go_ret
                  exact ⟨rfl, HS.out.below (below_drewN (Below.refl _ _) _), scc_below (below_drewN (Below.refl _ _) _)⟩
            · have e34 : (((R[k]'hlt2).toNat : Int) == 34) = false := ne8 h34 rfl
              have HK2 : Hid (shutAt s.rest b (k + 1) = shutAt s.rest false 0) := hid (by rw [← HK.out]; exact (shut_on hl (by rw [hg]; exact h92) (by rw [hg]; exact h34) (by rw [hg]; exact h41)).symm)
              cases b with
              | true =>
                have e92 : (((R[k]'hlt2).toNat : Int) == 92) = false := ne8 (fun e => h92 ⟨rfl, e⟩) rfl
                clear HK HK0 hg hl h92 h34 h41 HX HN HSo
                go_wp2
                go_round
                case rel => exact ⟨_, k + 1, rfl, by go_num, by omega, HK2⟩
                case measure => simp [intOf]; omega
              | false =>
                have e41 : (((R[k]'hlt2).toNat : Int) == 41) = false := ne8 (fun e => h41 ⟨rfl, e⟩) rfl
                clear HK HK0 hg hl h92 h34 h41 HX HN HSo
                go_wp2
                go_round
                case rel => exact ⟨_, k + 1, rfl, by go_num, by omega, HK2⟩
                case measure => simp [intOf]; omega
      · have hxx := HN.out (by rw [← HK.out]; exact shut_out (by rw [← HR2.out]; omega) _)
        subst hxx
        clear HX HN HSo HK
        go_wp2
        go_ret
        exact ⟨rfl, HS.out, ScC.refl _ _⟩
end
end
end Go.Proofs.YtjhnopnppimnhaaGreatDoor
