/-
  PARTS of a claim, merged by segs.py: Lr2.
-/
import Derived.Test.YtnbacdmlaedppaaGreatDoorQ37
import Derived.Test.YtnbacdmlaedppaaGreatDoorQ32
namespace Go.Proofs.YtnbacdmlaedppaaGreatDoor

/-! ### Lr2 -/
section
open Go.RowKit

theorem infoTokR : (Tryz.prog.info? 81).map (·.size) = some 6 := by kernel_rfl
theorem ref_keywords (w : World) : Calls Tryz.prog 107 #[] w fun e w' => e = .returned (.slice (some ⟨w.heap.size, 0, none⟩) 7 7) ∧ w.alloc (.cells kwCells 9) = w' := by
  go_enter Tryz.func107, Tryz.ntmps107
  go_wp2
  go_ret
  exact ⟨rfl, rfl⟩
/-- The keywords' cells. -/
def KwAt (w : World) (g : Nat) : Prop := ∀ j, j < kwB.length → w.cell? ⟨g, 0 + j, none⟩ = some (.string (kwB.getD j ByteArray.empty))
theorem kwAt_new (w : World) : KwAt (w.alloc (.cells kwCells 9)) w.heap.size := by
  intro j hj
  rw [cell_res (heap_alloc_new w _), Nat.zero_add]
  rw [List.getD_eq_getElem?_getD, List.getElem?_eq_getElem hj]
  simp [kwCells, hj]
theorem KwAt.below {w w' : World} {g : Nat} (h : KwAt w g) (hb : Below w.heap.size w w') : KwAt w' g := fun j hj => cell_keep hb (h j hj)

/-- A piece of a text. -/
theorem piece (s : ByteArray) (a m : Nat) : (s.extract a (a + m)).data.toList = (s.data.toList.drop a).take m := by
  simp only [ByteArray.data_extract, Array.toList_extract, List.extract]
  congr 1; omega
theorem first_at {s : ByteArray} {a : Nat} (h : a < s.size) : (s.data.toList.drop a).getD 0 0 = s[a] := by
  rw [List.getD_eq_getElem?_getD, List.getElem?_drop, Nat.add_zero, List.getElem?_eq_getElem (by simpa using h)]; rfl
theorem second_at {s : ByteArray} {a : Nat} (h : a + 1 < s.size) : (s.data.toList.drop a).getD 1 0 = s[a + 1] := by
  rw [List.getD_eq_getElem?_getD, List.getElem?_drop, List.getElem?_eq_getElem (by simpa using h)]; rfl
theorem same_list {y W : ByteArray} (h : y.toList = W.toList) : y = W := by
  rw [Lib.toList_data, Lib.toList_data] at h
  exact ByteArray.ext (Array.toList_inj.1 h)
theorem kw_mem (k : Nat) (hk : k < 7) : (kwB.getD k ByteArray.empty).data.toList ∈ keyL7 := by
  rw [← kw_lists, List.mem_map]
  refine ⟨_, ?_, rfl⟩
  rw [List.getD_eq_getElem?_getD, List.getElem?_eq_getElem (show k < kwB.length from hk)]
  exact List.getElem_mem _
theorem kw_hit {r : List UInt8} {W : ByteArray} (hW : r.take (wordLen r) = W.data.toList) {k : Nat} (hk : k < 7) {y : ByteArray} (hy : kwB.getD k ByteArray.empty = y) (h : y.toList = W.toList) (a : Int) : wordTok r a = (⟨5, W.data.toList, V0, a⟩, 0) := by
  unfold wordTok
  rw [hW, if_pos]
  rw [← same_list h, ← hy, List.contains_iff_mem]
  exact kw_mem k hk
theorem kw_miss {r : List UInt8} {W : ByteArray} (hW : r.take (wordLen r) = W.data.toList) (h : ∀ j, j < 7 → (kwB.getD j ByteArray.empty).toList ≠ W.toList) (a : Int) : wordTok r a = if 16 < W.size then (T0, 7) else (⟨1, W.data.toList, V0, a⟩, 0) := by
  unfold wordTok
  have hl : W.data.toList.length = W.size := by simp
  rw [hW, if_neg, hl]
  intro hc
  rw [List.contains_iff_mem, ← kw_lists, List.mem_map] at hc
  obtain ⟨y, hy, e⟩ := hc
  obtain ⟨j, hj, rfl⟩ := List.getElem_of_mem hy
  refine h j hj ?_
  rw [List.getD_eq_getElem?_getD, List.getElem?_eq_getElem hj, Lib.toList_data, Lib.toList_data]
  exact e

set_option maxRecDepth 100000 in
set_option maxHeartbeats 1000000 in
theorem ref_next_let (s : ByteArray) (a : Nat) (ha : a < s.size) (w : World) (hs : s.size ≤ 100000) (hl : letB s[a] = true) {x : Tok × Int} (hx : wordTok (s.data.toList.drop a) a = x) :
    Calls Tryz.prog 82 #[.string s, .int .i64 a] w (RetT w x) := by
  have k0 := below_one w (.cells zTok 81)
  have hz := heap_alloc_new w (.cells zTok 81)
  have hz1 := res_keep hz (below_one _ (.cells kwCells 9)) (by simp)
  have k1 := k0.trans ((below_one (w.alloc (.cells zTok 81)) (.cells kwCells 9)).mono k0.size)
  have Q := kwAt_new (w.alloc (.cells zTok 81))
  have e2 : (w.alloc (.cells zTok 81)).heap.size = w.heap.size + 1 := by simp
  rw [e2] at Q
  have HQ := hid Q
  obtain ⟨m, hm⟩ : ∃ m, wordLen (s.data.toList.drop a) = m := ⟨_, rfl⟩
  have hml := wordLen_le (s.data.toList.drop a)
  rw [hm, List.length_drop] at hml
  have hll : s.data.toList.length = s.size := by simp
  obtain ⟨W, hW⟩ : ∃ W, s.extract a (a + m) = W := ⟨_, rfl⟩
  have hWl : (s.data.toList.drop a).take (wordLen (s.data.toList.drop a)) = W.data.toList := by rw [hm, ← piece, hW]
  have hWs : W.size = m := by rw [← hW]; simp; omega
  have H0 := fun W => hid (ref_letter s[a] W hl)
  have H1 := fun W => hid (ref_word s a (by omega) W hs (x := a + m) (by rw [hm]))
  have H2 := fun W => hid (ref_keywords W)
  have HH := hid (fun (k : Nat) (hk : k < 7) (y : ByteArray) (hy : kwB.getD k ByteArray.empty = y) (h : y.toList = W.toList) => (hx.symm.trans (kw_hit hWl hk hy h a)))
  have HM := hid (fun h => hx.symm.trans (kw_miss hWl h a))
  have hlm : a + m ≤ s.size := by omega
  have hWl2 : W.size ≤ 100000 := by omega
  clear hx hWl hl Q e2 hm hml hll hWs k0
  go_enter Tryz.func82, Tryz.ntmps82
  go_wp2_with fail
  refine (H0 _).out.mono ?_
  rintro e w1 ⟨rfl, rfl⟩
  go_wp2_with fail
  refine (H1 _).out.mono ?_
  rintro e w1 ⟨rfl, rfl⟩
  go_wp2_with fail
  refine (H2 _).out.mono ?_
  rintro e w1 ⟨rfl, rfl⟩
  clear H0 H1 H2
  go_wp2_with fail
  go_loop [9] (fun i => ∃ k : Nat, k ≤ 7 ∧ i = .int .i64 k ∧ Hid (∀ j, j < k → (kwB.getD j ByteArray.empty).toList ≠ W.toList)) (fun i => 7 - (intOf i).toNat)
  case atStart => exact ⟨0, by omega, rfl, hid (fun j hj => absurd hj (by omega))⟩
  case round =>
    obtain ⟨k, hk, rfl, HN⟩ := hrel
    by_cases hlt : k < 7
    · have c0 := HQ.out k hlt
      rw [Nat.zero_add] at c0
      obtain ⟨y, hy⟩ : ∃ y, kwB.getD k ByteArray.empty = y := ⟨_, rfl⟩
      rw [hy] at c0
      cases hb : (y.toList == W.toList)
      · have HN2 : Hid (∀ j, j < k + 1 → (kwB.getD j ByteArray.empty).toList ≠ W.toList) := hid (fun j hj => by
          by_cases e : j = k
          · subst e; rw [hy]; simpa using hb
          · exact HN.out j (by omega))
        clear HN hy
        go_wp2
        go_round
        case rel => exact ⟨k + 1, by omega, by go_num, HN2⟩
        case measure => simp [intOf]; omega
      · obtain rfl := HH.out k hlt y hy (by simpa using hb)
        clear HH HM HN hy
        go_wp2_with (refine wpList_store_res rfl rfl rfl rfl hz1 infoTokR rfl rfl ?_; intro w9 hz9 hb9)
        refine bodyPost_ret (by simp [results, Tryz.results82, go_sem, cell_res hz9]; rfl) rfl ?_
        exact ⟨retT_txt (v := V0) (arr_back W), k1.trans hb9⟩
    · have hk7 : k = 7 := by omega
      subst hk7
      have hx := HM.out HN.out
      clear HH HM HN HQ
      by_cases h16 : 16 < W.size
      · rw [if_pos h16] at hx
        subst hx
        go_wp2_with (refine wpList_store_res rfl rfl rfl rfl hz1 infoTokR rfl rfl ?_; intro w9 hz9 hb9)
        refine bodyPost_ret (by simp [results, Tryz.results82, go_sem, cell_res hz9]; rfl) rfl ?_
        exact ⟨rfl, k1.trans hb9⟩
      · rw [if_neg h16] at hx
        subst hx
        go_wp2_with (refine wpList_store_res rfl rfl rfl rfl hz1 infoTokR rfl rfl ?_; intro w9 hz9 hb9)
        refine bodyPost_ret (by simp [results, Tryz.results82, go_sem, cell_res hz9]; rfl) rfl ?_
        exact ⟨retT_txt (v := V0) (arr_back W), k1.trans hb9⟩
end
end Go.Proofs.YtnbacdmlaedppaaGreatDoor
