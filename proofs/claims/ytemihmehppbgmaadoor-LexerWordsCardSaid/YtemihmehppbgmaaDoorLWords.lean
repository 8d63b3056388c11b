/-
  WALK: ordinallaw18.LexerWords.
-/
import Derived.Test.YtemihmehppbgmaaDoorAwake18
import Derived.Test.YtemihmehppbgmaaDoorLAny
import Derived.Lib.Repeat
namespace Go.Proofs.YtemihmehppbgmaaDoor
open Go.RowKit

theorem rep_one (c : UInt8) : ∀ n, Lib.repeatL [c] n = List.replicate n c
  | 0 => rfl
  | n + 1 => by rw [Lib.repeatL, rep_one c n]; rfl
theorem rep_call (c : UInt8) (n : Nat) (hn : n ≤ 200) (w : World) {S : ByteArray} (hS : S = ⟨(List.replicate n c).toArray⟩) :
    Calls Tryd.prog 16 #[.string ⟨#[c]⟩, .int .i64 n] w fun e w' => e = .returned (.string S) ∧ Below w.heap.size w w' := by
  subst hS
  have h := Tryd.strings_Repeat ⟨#[c]⟩ n w (by omega) (by have e1 : (⟨#[c]⟩ : ByteArray).size = 1 := rfl; rw [e1]; omega)
  have e : (⟨#[c]⟩ : ByteArray).data.toList = [c] := rfl
  rw [e, rep_one] at h
  exact h
theorem rep_size {S : ByteArray} {n : Nat} {c : UInt8} (hS : S = ⟨(List.replicate n c).toArray⟩) : S.size = n := by
  rw [hS]; simp [ByteArray.size]
theorem words_eq {s : ByteArray} (hS : s = ⟨(List.replicate s.size 98).toArray⟩) :
    ((⟨#[97]⟩ : ByteArray) ++ s ++ (⟨#[32]⟩ : ByteArray) ++ (⟨#[]⟩ : ByteArray)).data.toList = 97 :: (List.replicate s.size 98 ++ [32]) ∧ ((⟨#[97]⟩ : ByteArray) ++ s) = ⟨((97 : UInt8) :: List.replicate s.size 98).toArray⟩ := by
  have h : s.data.toList = List.replicate s.size 98 := by
    generalize s.size = n at *
    rw [hS]
  refine ⟨?_, ByteArray.ext (Array.toList_inj.1 ?_)⟩
  · rw [← h]; simp [ByteArray.data_append]
  · rw [← h]; simp [ByteArray.data_append]
theorem words_ne {S s r : ByteArray} (hq : ((⟨#[97]⟩ : ByteArray) ++ S).toList = ((⟨#[97]⟩ : ByteArray) ++ s).toList) (hA : ¬ (S = s ∧ r.size = 0)) : ((r.size : Int) == 0) = false := by
  have e : S = s := by
    rw [Lib.toList_data, Lib.toList_data] at hq
    refine ByteArray.ext (Array.toList_inj.1 ?_)
    simpa [ByteArray.data_append] using hq
  have : r.size ≠ 0 := fun h => hA ⟨e, h⟩
  rw [beq_eq_false_iff_ne]; omega
theorem TokAt.head {w : World} {b o : Nat} {t : Tok} {l : List Tok} (h : TokAt w (some ⟨b, o, none⟩) (t :: l)) : w.cell? ⟨b, o, none⟩ = some (.int .i64 t.k) ∧ w.cell? ⟨b, o + 1, none⟩ = some (.string ⟨t.t.toArray⟩) := by
  have := h.cells (k := 0) (x := t) (by simp) rfl
  rw [Nat.zero_mul, Nat.add_zero] at this
  exact ⟨this.1, this.2.1⟩

theorem ref_keywords (w : World) : Calls Tryd.prog 19 #[] w fun e w' => e = .returned (.slice (some ⟨w.heap.size, 0, none⟩) 7 7) ∧ w.alloc (.cells kwCells 9) = w' := by
  go_enter Tryd.func19, Tryd.ntmps19
  go_wp2
  go_ret
  exact ⟨rfl, rfl⟩
/-- The keywords' cells. -/
def KwAt (w : World) (g : Nat) : Prop := ∀ j, j < kwB.length → w.cell? ⟨g, 0 + j, none⟩ = some (.string (kwB.getD j ByteArray.empty))
theorem kwAt_new (w : World) : KwAt (w.alloc (.cells kwCells 9)) w.heap.size := by
  intro j hj
  rw [cell_res (heap_alloc_new w _), Nat.zero_add]
  rw [List.getD_eq_getElem?_getD, List.getElem?_eq_getElem hj]
  simp [kwCells, hj]
theorem KwAt.below {w w' : World} {g : Nat} (h : KwAt w g) (hb : Below w.heap.size w w') : KwAt w' g := fun j hj => cell_keep hb (h j hj)
theorem kw_equal (w : World) (g1 g2 : Nat) (h1 : KwAt w g1) (h2 : KwAt w g2) :
    Calls Tryd.prog 17 #[.slice (some ⟨g1, 0, none⟩) 7 7, .slice (some ⟨g2, 0, none⟩) 7 7] w fun e w' => e = .returned (.bool true) ∧ Below w.heap.size w w' := by
  refine (Tryd.slices_Equal_string g1 0 7 7 g2 0 7 7 kwB kwB w (by decide) (by decide) (by decide) (by decide) h1 h2).mono fun e w' ⟨h1, q, h2⟩ => ?_
  subst h2
  exact ⟨by rw [h1]; simp, below_drewN (Below.refl _ _) q⟩
theorem kw_nth (k : Nat) (hk : k < 7) : ∃ (x : ByteArray), kwB.getD k ByteArray.empty = x ∧ x.size ≤ 10 ∧ (∃ n : Int, scanL x.data.toList = ([⟨5, x.data.toList, V0, 0⟩, ⟨0, [], V0, n⟩], 0, 0)) ∧ ∃ n : Int, scanL (x ++ (⟨#[120]⟩ : ByteArray)).data.toList = ([⟨1, x.data.toList ++ [120], V0, 0⟩, ⟨0, [], V0, n⟩], 0, 0) := by
  have hm : (kwB.getD k ByteArray.empty).data.toList ∈ keyL7 := by
    rw [← kw_lists, List.mem_map]
    refine ⟨_, ?_, rfl⟩
    rw [List.getD_eq_getElem?_getD, List.getElem?_eq_getElem (show k < kwB.length from hk)]
    exact List.getElem_mem _
  have hl := (keys_words _ hm).2.2.2.1
  refine ⟨_, rfl, ?_, ⟨_, scan_key hm⟩, ⟨((kwB.getD k ByteArray.empty).data.toList ++ [120]).length, ?_⟩⟩
  · have e : (kwB.getD k ByteArray.empty).data.toList.length = (kwB.getD k ByteArray.empty).size := by simp
    omega
  · have e : ((kwB.getD k ByteArray.empty) ++ (⟨#[120]⟩ : ByteArray)).data.toList = (kwB.getD k ByteArray.empty).data.toList ++ [120] := by simp [ByteArray.data_append]
    rw [e]
    exact scan_keyx hm

set_option maxRecDepth 100000 in
set_option maxHeartbeats 4000000 in
theorem law_lwords (s r : ByteArray) (hs : s.size ≤ 140737488355328) (hr : r.size ≤ 140737488355328) (w : World) (hE : EnvL w) :
    Calls Tryd.prog 8 #[.string s, .string r] w fun e w' => e = .returned (.bool true) ∧ Below w.heap.size w w' := by
  have HA := fun W (h : Below w.heap.size w W) => hid (awake18 W (hE.below h))
  have HE := hid hE
  have H1 := fun W => hid (lex_keywords W)
  have H2 := fun W => hid (ref_keywords W)
  clear hE
  go_enter Tryd.func8, Tryd.ntmps8
  go_wp2_with fail
  refine (H1 _).out.mono ?_
  rintro e w1 ⟨rfl, rfl⟩
  have k1 := below_one w (.cells kwCells 9)
  have q1 := kwAt_new w
  go_wp2_with fail
  refine (H2 _).out.mono ?_
  rintro e w2 ⟨rfl, rfl⟩
  have b2 := below_one (w.alloc (.cells kwCells 9)) (.cells kwCells 9)
  have k2 := k1.trans (b2.mono k1.size)
  have q2 := kwAt_new (w.alloc (.cells kwCells 9))
  replace q1 := q1.below b2
  have e2 : (w.alloc (.cells kwCells 9)).heap.size = w.heap.size + 1 := by simp
  rw [e2] at q2
  clear e2
  go_wp2_with fail
  refine (kw_equal _ _ _ q1 q2).mono ?_
  rintro e w3 ⟨rfl, b3⟩
  have k3 := k2.trans (b3.mono k2.size)
  clear H1 q1 q2 b2 b3 k1 k2
  go_wp2_with fail
  refine (H2 _).out.mono ?_
  rintro e w4 ⟨rfl, rfl⟩
  have b4 := below_one w3 (.cells kwCells 9)
  have k4 := k3.trans (b4.mono k3.size)
  have q4 := kwAt_new w3
  generalize hg : w3.heap.size = g at *
  generalize w3.alloc (.cells kwCells 9) = w4 at *
  clear hg H2 b4 k3
  have Q4 := hid q4
  clear q4
  go_wp2_with fail
  go_loopw [23] (fun i wr => ∃ k : Nat, k ≤ 7 ∧ i = .int .i64 k ∧ Below w4.heap.size w4 wr) (fun i _ => 7 - (intOf i).toNat)
  case atStart => exact ⟨0, by omega, rfl, Below.refl _ _⟩
  case round =>
    obtain ⟨k, hk, rfl, hbel⟩ := hrel
    by_cases hlt : k < 7
    · obtain ⟨x, hx, hxs, ⟨n1, hx1⟩, n2, hx2⟩ := kw_nth k hlt
      have c0 := (Q4.out.below hbel) k hlt
      rw [hx, Nat.zero_add] at c0
      have k5 := k4.trans (hbel.mono k4.size)
      have H3 := fun W (h : Below w.heap.size w W) => hid (lex_scan x W (HE.out.below h) (by omega) hx1)
      have H4 := fun W (h : Below w.heap.size w W) => hid (lex_scan (x ++ (⟨#[120]⟩ : ByteArray)) W (HE.out.below h) (by rw [ByteArray.size_append]; have e1 : (⟨#[120]⟩ : ByteArray).size = 1 := rfl; omega) hx2)
      clear hx hx1 hx2
      go_wp2_with fail
      refine (H3 _ k5).out.mono ?_
      rintro e w5 ⟨A, c, rfl, hTA, hcA, b5⟩
      have k6 := k5.trans (b5.mono k5.size)
      replace hcA : 2 ≤ c := hcA
      obtain ⟨b, o, rfl⟩ := hTA.at (by simp)
      have a0 := hTA.head.1
      clear H3 hTA
      go_wp2_with fail
      refine (H4 _ k6).out.mono ?_
      rintro e w6 ⟨A', c', rfl, hTB, hcB, b6⟩
      have k7 := k6.trans (b6.mono k6.size)
      replace hcB : 2 ≤ c' := hcB
      obtain ⟨b', o', rfl⟩ := hTB.at (by simp)
      have d0 := hTB.head.1
      replace a0 := cell_keep b6 a0
      have bel6 := (hbel.trans (b5.mono hbel.size)).trans (b6.mono (hbel.trans (b5.mono hbel.size)).size)
      dsimp only at a0 d0
      clear H4 hTB b5 b6 k5 k6
      go_wp2_with fail
      go_roundw
      case rel => exact ⟨k + 1, by omega, by go_num, bel6⟩
      case measure => simp [intOf]; omega
    · have hkn : k = 7 := by omega
      have k5 := k4.trans (hbel.mono k4.size)
      subst hkn
      clear Q4 hbel k4
      by_cases h200 : 200 < s.size + r.size
      · have bb : decide ((200 : Int) < (s.size : Int) + (r.size : Int)) = true := by simp; omega
        clear h200
        go_wp2_with fail
        refine (HA _ k5).out.mono ?_
        rintro e w6 ⟨rfl, b6⟩
        have k6 := k5.trans (b6.mono k5.size)
        clear HA
        go_wp2
        go_ret
        exact ⟨rfl, k6⟩
      · have bb : decide ((200 : Int) < (s.size : Int) + (r.size : Int)) = false := by simp; omega
        have hsz : ((⟨#[97]⟩ : ByteArray) ++ s ++ (⟨#[32]⟩ : ByteArray) ++ r).size ≤ 100000 := by
          rw [ByteArray.size_append, ByteArray.size_append, ByteArray.size_append]; have e1 : (⟨#[97]⟩ : ByteArray).size = 1 := rfl; have e2 : (⟨#[32]⟩ : ByteArray).size = 1 := rfl; omega
        have hs2 : s.size ≤ 200 := by omega
        have hr2 : r.size ≤ 200 := by omega
        obtain ⟨S, hS⟩ : ∃ S : ByteArray, S = ⟨(List.replicate s.size 98).toArray⟩ := ⟨_, rfl⟩
        have hSs : S.size = s.size := rep_size hS
        have hS2 : S.size ≤ 200 := by omega
        have H4 := fun W => hid (rep_call 98 s.size hs2 W hS)
        by_cases hA : S = s ∧ r.size = 0
        · obtain ⟨hA1, hA2⟩ := hA
          obtain rfl : r = ⟨#[]⟩ := ByteArray.ext (Array.eq_empty_of_size_eq_zero hA2)
          rw [hA1] at hS H4
          have hsc := scan_ab s.size hs2
          obtain ⟨e3, e4⟩ := words_eq hS
          rw [← e3] at hsc
          have E4 := hid e4
          clear hS hSs hS2 hA1 hA2 hs hr e3 e4 hr2 h200
          by_cases h15 : 15 < s.size
          · rw [if_pos h15] at hsc
            have H3 := fun W (h : Below w.heap.size w W) => hid (lex_scan _ W (HE.out.below h) hsz hsc)
            clear hsc hsz
            go_wp2_with fail
            refine (H3 _ k5).out.mono ?_
            rintro e w6 ⟨A, c, rfl, hTA, hcA, b6⟩
            have k6 := k5.trans (b6.mono k5.size)
            clear H3 b6 k5
            go_wp2_with fail
            refine (H4 _).out.mono ?_
            rintro e w7 ⟨rfl, b7⟩
            have k7 := k6.trans (b7.mono k6.size)
            clear H4 b7 k6
            go_wp2_with fail
            refine (HA _ k7).out.mono ?_
            rintro e w8 ⟨rfl, b8⟩
            have k8 := k7.trans (b8.mono k7.size)
            clear HA
            go_wp2
            go_ret
            exact ⟨rfl, k8⟩
          · rw [if_neg h15] at hsc
            have H3 := fun W (h : Below w.heap.size w W) => hid (lex_scan _ W (HE.out.below h) hsz hsc)
            clear hsc hsz
            go_wp2_with fail
            refine (H3 _ k5).out.mono ?_
            rintro e w6 ⟨A, c, rfl, hTA, hcA, b6⟩
            have k6 := k5.trans (b6.mono k5.size)
            replace hcA : 2 ≤ c := hcA
            obtain ⟨b, o, rfl⟩ := hTA.at (by simp)
            have a0 := hTA.head.2
            dsimp only at a0
            rw [← E4.out] at a0
            clear hTA E4
            clear H3 b6 k5
            go_wp2_with fail
            refine (H4 _).out.mono ?_
            rintro e w7 ⟨rfl, b7⟩
            have k7 := k6.trans (b7.mono k6.size)
            replace a0 := cell_keep b7 a0
            clear H4 b7 k6
            go_wp2_with fail
            refine (HA _ k7).out.mono ?_
            rintro e w8 ⟨rfl, b8⟩
            have k8 := k7.trans (b8.mono k7.size)
            clear HA
            go_wp2
            go_ret
            exact ⟨rfl, k8⟩
        · obtain ⟨⟨ts, q, e⟩, hx⟩ : ∃ x, scanL ((⟨#[97]⟩ : ByteArray) ++ s ++ (⟨#[32]⟩ : ByteArray) ++ r).data.toList = x := ⟨_, rfl⟩
          have H3 := fun W (h : Below w.heap.size w W) => hid (lex_scan _ W (HE.out.below h) hsz hx)
          by_cases he : e = 0
          · subst he
            obtain ⟨n, hn, hnl⟩ := ok_ne hx
            have HN := hid hn
            by_cases hq : ((⟨#[97]⟩ : ByteArray) ++ S).toList = ((⟨#[97]⟩ : ByteArray) ++ s).toList
            · have br : ((r.size : Int) == 0) = false := words_ne hq hA
              clear hsz hs hr hSs hS hA hn hnl hx
              go_wp2_with fail
              refine (H3 _ k5).out.mono ?_
              rintro e9 w6 ⟨A, c, rfl, hTA, hcA, b6⟩
              have k6 := k5.trans (b6.mono k5.size)
              rw [HN.out]
              clear H3 b6 k5 hTA hcA
              go_wp2_with fail
              refine (H4 _).out.mono ?_
              rintro e9 w7 ⟨rfl, b7⟩
              have k7 := k6.trans (b7.mono k6.size)
              clear H4 b7 k6
              go_wp2_with fail
              refine (HA _ k7).out.mono ?_
              rintro e9 w8 ⟨rfl, b8⟩
              have k8 := k7.trans (b8.mono k7.size)
              clear HA
              go_wp2
              go_ret
              exact ⟨rfl, k8⟩
            · clear hsz hs hr hSs hS hA hn hnl hx
              go_wp2_with fail
              refine (H3 _ k5).out.mono ?_
              rintro e9 w6 ⟨A, c, rfl, hTA, hcA, b6⟩
              have k6 := k5.trans (b6.mono k5.size)
              rw [HN.out]
              clear H3 b6 k5 hTA hcA
              go_wp2_with fail
              refine (H4 _).out.mono ?_
              rintro e9 w7 ⟨rfl, b7⟩
              have k7 := k6.trans (b7.mono k6.size)
              clear H4 b7 k6
              go_wp2_with fail
              refine (HA _ k7).out.mono ?_
              rintro e9 w8 ⟨rfl, b8⟩
              have k8 := k7.trans (b8.mono k7.size)
              clear HA
              go_wp2
              go_ret
              exact ⟨rfl, k8⟩
          · obtain rfl := scanL_err hx he
            have be : (e == 0) = false := by simpa using he
            by_cases hq : ((⟨#[97]⟩ : ByteArray) ++ S).toList = ((⟨#[97]⟩ : ByteArray) ++ s).toList
            · have br : ((r.size : Int) == 0) = false := words_ne hq hA
              clear hsz hs hr hSs hS hA hx he
              go_wp2_with fail
              refine (H3 _ k5).out.mono ?_
              rintro e9 w6 ⟨A, c, rfl, hTA, hcA, b6⟩
              have k6 := k5.trans (b6.mono k5.size)
              clear H3 b6 k5 hTA hcA
              go_wp2_with fail
              refine (H4 _).out.mono ?_
              rintro e9 w7 ⟨rfl, b7⟩
              have k7 := k6.trans (b7.mono k6.size)
              clear H4 b7 k6
              go_wp2_with fail
              refine (HA _ k7).out.mono ?_
              rintro e9 w8 ⟨rfl, b8⟩
              have k8 := k7.trans (b8.mono k7.size)
              clear HA
              go_wp2
              go_ret
              exact ⟨rfl, k8⟩
            · clear hsz hs hr hSs hS hA hx he
              go_wp2_with fail
              refine (H3 _ k5).out.mono ?_
              rintro e9 w6 ⟨A, c, rfl, hTA, hcA, b6⟩
              have k6 := k5.trans (b6.mono k5.size)
              clear H3 b6 k5 hTA hcA
              go_wp2_with fail
              refine (H4 _).out.mono ?_
              rintro e9 w7 ⟨rfl, b7⟩
              have k7 := k6.trans (b7.mono k6.size)
              clear H4 b7 k6
              go_wp2_with fail
              refine (HA _ k7).out.mono ?_
              rintro e9 w8 ⟨rfl, b8⟩
              have k8 := k7.trans (b8.mono k7.size)
              clear HA
              go_wp2
              go_ret
              exact ⟨rfl, k8⟩
end Go.Proofs.YtemihmehppbgmaaDoor
