/-
  PARTS of a claim, merged by segs.py: Lr4.
-/
import Derived.Test.YtnbacdmlaedppaaGreatDoorQ39
import Derived.Deep.QuietTactic
namespace Go.Proofs.YtnbacdmlaedppaaGreatDoor

/-! ### Lr4 -/
section
open Go.RowKit

theorem ref_symbols (w : World) : Calls Tryz.prog 111 #[] w fun e w' => e = .returned (.slice (some ⟨w.heap.size, 0, none⟩) 12 12) ∧ w.alloc (.cells symCells 9) = w' := by
  go_enter Tryz.func111, Tryz.ntmps111
  go_wp2
  go_ret
  exact ⟨rfl, rfl⟩
theorem symCells_eq : symCells = (symB.map Value.string).toArray := rfl
/-- The symbols' cells. -/
def SyAt (w : World) (g : Nat) : Prop := ∀ j, j < 12 → w.cell? ⟨g, 0 + j, none⟩ = some (.string (symB.getD j ByteArray.empty))
theorem syAt_new (w : World) : SyAt (w.alloc (.cells symCells 9)) w.heap.size := by
  intro j hj
  have hj' : j < symB.length := hj
  rw [cell_res (heap_alloc_new w _), Nat.zero_add, symCells_eq]
  rw [List.getD_eq_getElem?_getD, List.getElem?_eq_getElem hj']
  simp [hj']
theorem SyAt.below {w w' : World} {g : Nat} (h : SyAt w g) (hb : Below w.heap.size w w') : SyAt w' g := fun j hj => cell_keep hb (h j hj)
theorem sy_getD {k : Nat} (hk : k < 12) : symB.getD k ByteArray.empty = symB[k]'hk := by
  rw [List.getD_eq_getElem?_getD, List.getElem?_eq_getElem (show k < symB.length from hk)]; rfl
theorem sy_size {k : Nat} (hk : k < 12) : (symB.getD k ByteArray.empty).size ≤ 2 := by
  have : ∀ k : Fin 12, (symB.getD k.val ByteArray.empty).size ≤ 2 := by decide
  exact this ⟨k, hk⟩
theorem take_pre {y l : List UInt8} : y.isPrefixOf l = decide (l.take y.length = y) := by
  rw [Bool.eq_iff_iff, List.isPrefixOf_iff_prefix, decide_eq_true_iff]
  exact ⟨fun h => (List.prefix_iff_eq_take.1 h).symm, fun h => h ▸ List.take_prefix _ _⟩
theorem pre_at (s y : ByteArray) (a : Nat) : y.data.toList.isPrefixOf (s.data.toList.drop a) = decide ((s.extract a (a + y.size)).toList = y.toList) := by
  rw [take_pre, Lib.toList_data, Lib.toList_data, piece]
  have : y.data.toList.length = y.size := by simp
  rw [this]
theorem pre_shortA (s y : ByteArray) (a : Nat) (h : s.size - a < y.size) : y.data.toList.isPrefixOf (s.data.toList.drop a) = false := by
  rw [take_pre, decide_eq_false_iff_not]
  intro e
  have := congrArg List.length e
  have e1 : y.data.toList.length = y.size := by simp
  rw [List.length_take, List.length_drop, e1] at this
  have e2 : s.data.toList.length = s.size := by simp
  omega
theorem sy_hit {s : ByteArray} {a k : Nat} (hk : k < 12) (hn : ∀ j, j < k → (symB.getD j ByteArray.empty).data.toList.isPrefixOf (s.data.toList.drop a) = false) {y : ByteArray} (hy : symB.getD k ByteArray.empty = y) (h : ((s.extract a (a + y.size)).toList == y.toList) = true) (b : Int) :
    symTok (s.data.toList.drop a) b = (⟨4, y.data.toList, V0, b⟩, 0) := by
  have := find_found (r := s.data.toList.drop a) hk (fun j hj => by have h2 := hn j hj; rw [sy_getD (show j < 12 by omega)] at h2; exact h2) (by have h2 : (symB.getD k ByteArray.empty).data.toList.isPrefixOf (s.data.toList.drop a) = true := by { rw [hy, pre_at]; simpa using h }; rw [sy_getD hk] at h2; exact h2) b
  rw [this, ← sy_getD hk, hy]
theorem sy_miss {s : ByteArray} {a : Nat} (hn : ∀ j, j < 12 → (symB.getD j ByteArray.empty).data.toList.isPrefixOf (s.data.toList.drop a) = false) (b : Int) : symTok (s.data.toList.drop a) b = (T0, 15) :=
  find_none (fun j hj => by have h2 := hn j hj; rw [sy_getD hj] at h2; exact h2) b

set_option maxRecDepth 100000 in
set_option maxHeartbeats 2000000 in
theorem ref_next_sym1 (s : ByteArray) (a : Nat) (ha : a < s.size) (w : World) (hs : s.size ≤ 100000) (hl : letB s[a] = false) (d1 : digB s[a] = false) (d2 : s[a].toNat ≠ 45) (h34 : s[a].toNat ≠ 34) {x : Tok × Int} (hx : symTok (s.data.toList.drop a) a = x) :
    Calls Tryz.prog 82 #[.string s, .int .i64 a] w (RetT w x) := by
  have k0 := below_one w (.cells zTok 81)
  have hz := heap_alloc_new w (.cells zTok 81)
  have hz1 := res_keep hz (below_one _ (.cells symCells 9)) (by simp)
  have hzl : w.heap.size < ((w.alloc (.cells zTok 81)).alloc (.cells symCells 9)).heap.size := by simp; omega
  have k1 := k0.trans ((below_one (w.alloc (.cells zTok 81)) (.cells symCells 9)).mono k0.size)
  have Q := syAt_new (w.alloc (.cells zTok 81))
  have e2 : (w.alloc (.cells zTok 81)).heap.size = w.heap.size + 1 := by simp
  rw [e2] at Q
  have HQ := hid Q
  have H0 := fun W => hid (ref_letter s[a] W hl)
  have H1 := fun W => hid (ref_digit s[a] W d1)
  have H5 := fun W => hid (ref_symbols W)
  have b34 : ((s[a].toNat : Int) == 34) = false := by rw [beq_eq_false_iff_ne]; omega
  have HX := hid hx
  have b45 : ((s[a].toNat : Int) == 45) = false := by rw [beq_eq_false_iff_ne]; omega
  clear hx Q e2 k0 hl d1 d2 h34
  go_enter Tryz.func82, Tryz.ntmps82
  go_wp2_with fail
  refine (H0 _).out.mono ?_
  rintro e w1 ⟨rfl, rfl⟩
  go_wp2_with fail
  refine (H1 _).out.mono ?_
  rintro e w1 ⟨rfl, rfl⟩
  go_wp2_with fail
  refine (H5 _).out.mono ?_
  rintro e w1 ⟨rfl, rfl⟩
  clear H0 H1 H5
  go_wp2_with fail
  generalize (w.alloc (.cells zTok 81)).alloc (.cells symCells 9) = w2 at *
  go_loopw [17] (fun i wr => ∃ k : Nat, k ≤ 12 ∧ i = .int .i64 k ∧ Hid (∀ j, j < k → (symB.getD j ByteArray.empty).data.toList.isPrefixOf (s.data.toList.drop a) = false) ∧ Below w2.heap.size w2 wr) (fun i _ => 12 - (intOf i).toNat)
  case atStart => exact ⟨0, by omega, rfl, hid (fun j hj => absurd hj (by omega)), Below.refl _ _⟩
  case round =>
    obtain ⟨k, hk, rfl, HN, hbel⟩ := hrel
    have k2 := k1.trans (hbel.mono k1.size)
    have hz2 := res_keep hz1 hbel hzl
    by_cases hlt : k < 12
    · have c0 := (HQ.out.below hbel) k hlt
      rw [Nat.zero_add] at c0
      have hys := sy_size hlt
      obtain ⟨y, hy⟩ : ∃ y, symB.getD k ByteArray.empty = y := ⟨_, rfl⟩
      rw [hy] at c0 hys
      have HNX := hid (fun (h : y.data.toList.isPrefixOf (s.data.toList.drop a) = false) (j : Nat) (hj : j < k + 1) => show (symB.getD j ByteArray.empty).data.toList.isPrefixOf (s.data.toList.drop a) = false by
          by_cases e : j = k
          · subst e; rw [hy]; exact h
          · exact HN.out j (by omega))
      by_cases hfit : y.size ≤ s.size - a
      · have bfit : decide ((y.size : Int) ≤ (s.size : Int) - a) = true := by rw [decide_eq_true_iff]; omega
        have hA : (a : Int) + y.size ≤ s.size := by omega
        have hB : (a : Int) ≤ (a : Int) + y.size := by omega
        have eN : ((a : Int) + y.size).toNat = a + y.size := by omega
        cases hb : ((s.extract a (a + y.size)).toList == y.toList)
        · have HN2 := hid (HNX.out (by rw [pre_at]; simpa using hb))
          clear HN HNX hy hfit
          go_wp2_with fail
          go_quiet (fail)
          go_wp2
          go_roundw
          case rel => exact ⟨k + 1, by omega, by go_num, HN2, below_drewN hbel _⟩
          case measure => simp [intOf]; omega
        · have hx := HX.out.symm.trans (sy_hit hlt HN.out hy hb a)
          subst hx
          clear HN HNX hy HX hfit
          go_wp2_with fail
          go_quiet (fail)
          have hz3 : (wr.drewN nq).heap[w.heap.size]? = some (.cells zTok 81) := hz2
          have k3 := below_drewN k2 nq
          go_wp2_with (refine wpList_store_res rfl rfl rfl rfl hz3 infoTokR rfl rfl ?_; intro w9 hz9 hb9)
          refine bodyPost_ret (by simp [results, Tryz.results82, go_sem, cell_res hz9]; rfl) rfl ?_
          exact ⟨retT_txt (v := V0) (arr_back y), k3.trans hb9⟩
      · have bfit : decide ((y.size : Int) ≤ (s.size : Int) - a) = false := by rw [decide_eq_false_iff_not]; omega
        have HN2 := hid (HNX.out (pre_shortA s y a (by omega)))
        clear HN HNX hy hfit
        go_wp2_with fail
        go_quiet (fail)
        go_wp2
        go_roundw
        case rel => exact ⟨k + 1, by omega, by go_num, HN2, below_drewN hbel _⟩
        case measure => simp [intOf]; omega
    · have hk7 : k = 12 := by omega
      subst hk7
      have hx := HX.out.symm.trans (sy_miss HN.out a)
      subst hx
      clear HN HX HQ
      go_wp2_with (refine wpList_store_res rfl rfl rfl rfl hz2 infoTokR rfl rfl ?_; intro w9 hz9 hb9)
      refine bodyPost_ret (by simp [results, Tryz.results82, go_sem, cell_res hz9]; rfl) rfl ?_
      exact ⟨rfl, k2.trans hb9⟩

set_option maxRecDepth 100000 in
set_option maxHeartbeats 2000000 in
theorem ref_next_sym2 (s : ByteArray) (a : Nat) (ha : a < s.size) (w : World) (hs : s.size ≤ 100000) (hl : letB s[a] = false) (d1 : digB s[a] = false) (d2 : s[a].toNat = 45) (h1 : s.size ≤ a + 1) (_h34 : s[a].toNat ≠ 34) {x : Tok × Int} (hx : symTok (s.data.toList.drop a) a = x) :
    Calls Tryz.prog 82 #[.string s, .int .i64 a] w (RetT w x) := by
  have k0 := below_one w (.cells zTok 81)
  have hz := heap_alloc_new w (.cells zTok 81)
  have hz1 := res_keep hz (below_one _ (.cells symCells 9)) (by simp)
  have hzl : w.heap.size < ((w.alloc (.cells zTok 81)).alloc (.cells symCells 9)).heap.size := by simp; omega
  have k1 := k0.trans ((below_one (w.alloc (.cells zTok 81)) (.cells symCells 9)).mono k0.size)
  have Q := syAt_new (w.alloc (.cells zTok 81))
  have e2 : (w.alloc (.cells zTok 81)).heap.size = w.heap.size + 1 := by simp
  rw [e2] at Q
  have HQ := hid Q
  have H0 := fun W => hid (ref_letter s[a] W hl)
  have H1 := fun W => hid (ref_digit s[a] W d1)
  have H5 := fun W => hid (ref_symbols W)
  have b34 : ((s[a].toNat : Int) == 34) = false := by rw [beq_eq_false_iff_ne]; omega
  have HX := hid hx
  have b45 : ((s[a].toNat : Int) == 45) = true := by rw [d2]; rfl
  clear hx Q e2 k0 hl d1 d2 _h34
  go_enter Tryz.func82, Tryz.ntmps82
  go_wp2_with fail
  refine (H0 _).out.mono ?_
  rintro e w1 ⟨rfl, rfl⟩
  go_wp2_with fail
  refine (H1 _).out.mono ?_
  rintro e w1 ⟨rfl, rfl⟩
  go_wp2_with fail
  refine (H5 _).out.mono ?_
  rintro e w1 ⟨rfl, rfl⟩
  clear H0 H1 H5
  go_wp2_with fail
  generalize (w.alloc (.cells zTok 81)).alloc (.cells symCells 9) = w2 at *
  go_loopw [17] (fun i wr => ∃ k : Nat, k ≤ 12 ∧ i = .int .i64 k ∧ Hid (∀ j, j < k → (symB.getD j ByteArray.empty).data.toList.isPrefixOf (s.data.toList.drop a) = false) ∧ Below w2.heap.size w2 wr) (fun i _ => 12 - (intOf i).toNat)
  case atStart => exact ⟨0, by omega, rfl, hid (fun j hj => absurd hj (by omega)), Below.refl _ _⟩
  case round =>
    obtain ⟨k, hk, rfl, HN, hbel⟩ := hrel
    have k2 := k1.trans (hbel.mono k1.size)
    have hz2 := res_keep hz1 hbel hzl
    by_cases hlt : k < 12
    · have c0 := (HQ.out.below hbel) k hlt
      rw [Nat.zero_add] at c0
      have hys := sy_size hlt
      obtain ⟨y, hy⟩ : ∃ y, symB.getD k ByteArray.empty = y := ⟨_, rfl⟩
      rw [hy] at c0 hys
      have HNX := hid (fun (h : y.data.toList.isPrefixOf (s.data.toList.drop a) = false) (j : Nat) (hj : j < k + 1) => show (symB.getD j ByteArray.empty).data.toList.isPrefixOf (s.data.toList.drop a) = false by
          by_cases e : j = k
          · subst e; rw [hy]; exact h
          · exact HN.out j (by omega))
      by_cases hfit : y.size ≤ s.size - a
      · have bfit : decide ((y.size : Int) ≤ (s.size : Int) - a) = true := by rw [decide_eq_true_iff]; omega
        have hA : (a : Int) + y.size ≤ s.size := by omega
        have hB : (a : Int) ≤ (a : Int) + y.size := by omega
        have eN : ((a : Int) + y.size).toNat = a + y.size := by omega
        cases hb : ((s.extract a (a + y.size)).toList == y.toList)
        · have HN2 := hid (HNX.out (by rw [pre_at]; simpa using hb))
          clear HN HNX hy hfit
          go_wp2_with fail
          go_quiet (fail)
          go_wp2
          go_roundw
          case rel => exact ⟨k + 1, by omega, by go_num, HN2, below_drewN hbel _⟩
          case measure => simp [intOf]; omega
        · have hx := HX.out.symm.trans (sy_hit hlt HN.out hy hb a)
          subst hx
          clear HN HNX hy HX hfit
          go_wp2_with fail
          go_quiet (fail)
          have hz3 : (wr.drewN nq).heap[w.heap.size]? = some (.cells zTok 81) := hz2
          have k3 := below_drewN k2 nq
          go_wp2_with (refine wpList_store_res rfl rfl rfl rfl hz3 infoTokR rfl rfl ?_; intro w9 hz9 hb9)
          refine bodyPost_ret (by simp [results, Tryz.results82, go_sem, cell_res hz9]; rfl) rfl ?_
          exact ⟨retT_txt (v := V0) (arr_back y), k3.trans hb9⟩
      · have bfit : decide ((y.size : Int) ≤ (s.size : Int) - a) = false := by rw [decide_eq_false_iff_not]; omega
        have HN2 := hid (HNX.out (pre_shortA s y a (by omega)))
        clear HN HNX hy hfit
        go_wp2_with fail
        go_quiet (fail)
        go_wp2
        go_roundw
        case rel => exact ⟨k + 1, by omega, by go_num, HN2, below_drewN hbel _⟩
        case measure => simp [intOf]; omega
    · have hk7 : k = 12 := by omega
      subst hk7
      have hx := HX.out.symm.trans (sy_miss HN.out a)
      subst hx
      clear HN HX HQ
      go_wp2_with (refine wpList_store_res rfl rfl rfl rfl hz2 infoTokR rfl rfl ?_; intro w9 hz9 hb9)
      refine bodyPost_ret (by simp [results, Tryz.results82, go_sem, cell_res hz9]; rfl) rfl ?_
      exact ⟨rfl, k2.trans hb9⟩

set_option maxRecDepth 100000 in
set_option maxHeartbeats 2000000 in
theorem ref_next_sym3 (s : ByteArray) (a : Nat) (ha : a < s.size) (w : World) (hs : s.size ≤ 100000) (hl : letB s[a] = false) (h1 : a + 1 < s.size) (d1 : digB s[a] = false) (d2 : s[a].toNat = 45) (d3 : digB s[a + 1] = false) (_h34 : s[a].toNat ≠ 34) {x : Tok × Int} (hx : symTok (s.data.toList.drop a) a = x) :
    Calls Tryz.prog 82 #[.string s, .int .i64 a] w (RetT w x) := by
  have k0 := below_one w (.cells zTok 81)
  have hz := heap_alloc_new w (.cells zTok 81)
  have hz1 := res_keep hz (below_one _ (.cells symCells 9)) (by simp)
  have hzl : w.heap.size < ((w.alloc (.cells zTok 81)).alloc (.cells symCells 9)).heap.size := by simp; omega
  have k1 := k0.trans ((below_one (w.alloc (.cells zTok 81)) (.cells symCells 9)).mono k0.size)
  have Q := syAt_new (w.alloc (.cells zTok 81))
  have e2 : (w.alloc (.cells zTok 81)).heap.size = w.heap.size + 1 := by simp
  rw [e2] at Q
  have HQ := hid Q
  have H0 := fun W => hid (ref_letter s[a] W hl)
  have H1 := fun W => hid (ref_digit s[a] W d1)
  have H5 := fun W => hid (ref_symbols W)
  have b34 : ((s[a].toNat : Int) == 34) = false := by rw [beq_eq_false_iff_ne]; omega
  have HX := hid hx
  have b45 : ((s[a].toNat : Int) == 45) = true := by rw [d2]; rfl
  have H4 := fun W => hid (ref_digit s[a + 1] W d3)
  clear hx Q e2 k0 hl d1 d2 _h34 d3
  go_enter Tryz.func82, Tryz.ntmps82
  go_wp2_with fail
  refine (H0 _).out.mono ?_
  rintro e w1 ⟨rfl, rfl⟩
  go_wp2_with fail
  refine (H1 _).out.mono ?_
  rintro e w1 ⟨rfl, rfl⟩
  go_wp2_with fail
  refine (H4 _).out.mono ?_
  rintro e w1 ⟨rfl, rfl⟩
  go_wp2_with fail
  refine (H5 _).out.mono ?_
  rintro e w1 ⟨rfl, rfl⟩
  clear H0 H1 H5
  go_wp2_with fail
  generalize (w.alloc (.cells zTok 81)).alloc (.cells symCells 9) = w2 at *
  go_loopw [17] (fun i wr => ∃ k : Nat, k ≤ 12 ∧ i = .int .i64 k ∧ Hid (∀ j, j < k → (symB.getD j ByteArray.empty).data.toList.isPrefixOf (s.data.toList.drop a) = false) ∧ Below w2.heap.size w2 wr) (fun i _ => 12 - (intOf i).toNat)
  case atStart => exact ⟨0, by omega, rfl, hid (fun j hj => absurd hj (by omega)), Below.refl _ _⟩
  case round =>
    obtain ⟨k, hk, rfl, HN, hbel⟩ := hrel
    have k2 := k1.trans (hbel.mono k1.size)
    have hz2 := res_keep hz1 hbel hzl
    by_cases hlt : k < 12
    · have c0 := (HQ.out.below hbel) k hlt
      rw [Nat.zero_add] at c0
      have hys := sy_size hlt
      obtain ⟨y, hy⟩ : ∃ y, symB.getD k ByteArray.empty = y := ⟨_, rfl⟩
      rw [hy] at c0 hys
      have HNX := hid (fun (h : y.data.toList.isPrefixOf (s.data.toList.drop a) = false) (j : Nat) (hj : j < k + 1) => show (symB.getD j ByteArray.empty).data.toList.isPrefixOf (s.data.toList.drop a) = false by
          by_cases e : j = k
          · subst e; rw [hy]; exact h
          · exact HN.out j (by omega))
      by_cases hfit : y.size ≤ s.size - a
      · have bfit : decide ((y.size : Int) ≤ (s.size : Int) - a) = true := by rw [decide_eq_true_iff]; omega
        have hA : (a : Int) + y.size ≤ s.size := by omega
        have hB : (a : Int) ≤ (a : Int) + y.size := by omega
        have eN : ((a : Int) + y.size).toNat = a + y.size := by omega
        cases hb : ((s.extract a (a + y.size)).toList == y.toList)
        · have HN2 := hid (HNX.out (by rw [pre_at]; simpa using hb))
          clear HN HNX hy hfit
          go_wp2_with fail
          go_quiet (fail)
          go_wp2
          go_roundw
          case rel => exact ⟨k + 1, by omega, by go_num, HN2, below_drewN hbel _⟩
          case measure => simp [intOf]; omega
        · have hx := HX.out.symm.trans (sy_hit hlt HN.out hy hb a)
          subst hx
          clear HN HNX hy HX hfit
          go_wp2_with fail
          go_quiet (fail)
          have hz3 : (wr.drewN nq).heap[w.heap.size]? = some (.cells zTok 81) := hz2
          have k3 := below_drewN k2 nq
          go_wp2_with (refine wpList_store_res rfl rfl rfl rfl hz3 infoTokR rfl rfl ?_; intro w9 hz9 hb9)
          refine bodyPost_ret (by simp [results, Tryz.results82, go_sem, cell_res hz9]; rfl) rfl ?_
          exact ⟨retT_txt (v := V0) (arr_back y), k3.trans hb9⟩
      · have bfit : decide ((y.size : Int) ≤ (s.size : Int) - a) = false := by rw [decide_eq_false_iff_not]; omega
        have HN2 := hid (HNX.out (pre_shortA s y a (by omega)))
        clear HN HNX hy hfit
        go_wp2_with fail
        go_quiet (fail)
        go_wp2
        go_roundw
        case rel => exact ⟨k + 1, by omega, by go_num, HN2, below_drewN hbel _⟩
        case measure => simp [intOf]; omega
    · have hk7 : k = 12 := by omega
      subst hk7
      have hx := HX.out.symm.trans (sy_miss HN.out a)
      subst hx
      clear HN HX HQ
      go_wp2_with (refine wpList_store_res rfl rfl rfl rfl hz2 infoTokR rfl rfl ?_; intro w9 hz9 hb9)
      refine bodyPost_ret (by simp [results, Tryz.results82, go_sem, cell_res hz9]; rfl) rfl ?_
      exact ⟨rfl, k2.trans hb9⟩

theorem ref_next (s : ByteArray) (a : Nat) (ha : a < s.size) (w : World) (hs : s.size ≤ 100000) {x : Tok × Int} (hx : nextL (s.data.toList.drop a) a = x) :
    Calls Tryz.prog 82 #[.string s, .int .i64 a] w (RetT w x) := by
  unfold nextL at hx
  rw [first_at ha] at hx
  cases hl : letB s[a]
  · rw [hl, if_neg (by decide)] at hx
    cases hn : numB (s.data.toList.drop a)
    · rw [hn, if_neg (by decide)] at hx
      by_cases h34 : s[a] = 34
      · rw [if_pos h34] at hx
        exact ref_next_str s a ha w hs h34 hx
      · rw [if_neg h34] at hx
        have h34' : s[a].toNat ≠ 34 := fun e => h34 (UInt8.toNat.inj e)
        rcases num_ways_at s a ha hn with ⟨h, _⟩ | ⟨_, h, _⟩ | ⟨_, d1, d2⟩ | ⟨_, d1, d2, d3⟩ | ⟨h1, _, d1, d2, d3⟩
        · cases h
        · cases h
        · exact ref_next_sym1 s a ha w hs hl d1 d2 h34' hx
        · exact ref_next_sym2 s a ha w hs hl d1 d2 d3 h34' hx
        · exact ref_next_sym3 s a ha w hs hl h1 d1 d2 d3 h34' hx
    · rw [hn, if_pos rfl] at hx
      exact ref_next_num s a ha w hs hl hn hx
  · rw [hl, if_pos rfl] at hx
    exact ref_next_let s a ha w hs hl hx
end
end Go.Proofs.YtnbacdmlaedppaaGreatDoor
