/-
  PARTS of a claim, merged by segs.py: Lr3.
-/
import Derived.Test.YtnbacdmlaedppaaGreatDoorQ38
import Derived.Test.YtnbacdmlaedppaaGreatDoorQ17
import Derived.StillTailTactics
namespace Go.Proofs.YtnbacdmlaedppaaGreatDoor

/-! ### Lr3 -/
section
open Go.RowKit

theorem num_ways_at (s : ByteArray) (a : Nat) (ha : a < s.size) {b : Bool} (hb : numB (s.data.toList.drop a) = b) :
    (b = true ∧ digB s[a] = true) ∨ (∃ h1 : a + 1 < s.size, b = true ∧ digB s[a] = false ∧ s[a].toNat = 45 ∧ digB s[a + 1] = true) ∨ (b = false ∧ digB s[a] = false ∧ s[a].toNat ≠ 45) ∨ (b = false ∧ digB s[a] = false ∧ s[a].toNat = 45 ∧ s.size ≤ a + 1) ∨ (∃ h1 : a + 1 < s.size, b = false ∧ digB s[a] = false ∧ s[a].toNat = 45 ∧ digB s[a + 1] = false) := by
  subst hb
  unfold numB
  have hl : (s.data.toList.drop a).length = s.size - a := by simp
  rw [first_at ha, hl]
  cases hd : digB s[a]
  · by_cases h45 : s[a].toNat = 45
    · have e : (s[a] == 45) = true := by have : s[a] = 45 := UInt8.toNat.inj h45; rw [this]; rfl
      by_cases h1 : a + 1 < s.size
      · have h2 : 1 < s.size - a := by omega
        rw [second_at h1]
        cases hd1 : digB s[a + 1]
        · right; right; right; right; exact ⟨h1, by simp, rfl, h45, hd1⟩
        · right; left; exact ⟨h1, by simp [e, h2], rfl, h45, hd1⟩
      · have h2 : ¬ 1 < s.size - a := by omega
        right; right; right; left; exact ⟨by simp [h2], rfl, h45, by omega⟩
    · have e : (s[a] == 45) = false := by simpa using fun e => h45 (congrArg UInt8.toNat e)
      right; right; left; exact ⟨by simp [e], rfl, h45⟩
  · left; exact ⟨by simp, rfl⟩

set_option maxRecDepth 100000 in
set_option maxHeartbeats 2000000 in
theorem ref_next_num (s : ByteArray) (a : Nat) (ha : a < s.size) (w : World) (hs : s.size ≤ 100000) (hl : letB s[a] = false) (hn : numB (s.data.toList.drop a) = true) {x : Tok × Int} (hx : litTok 2 ((s.data.toList.drop a).take (1 + wordLen ((s.data.toList.drop a).drop 1))) a = x) :
    Calls Tryz.prog 82 #[.string s, .int .i64 a] w (RetT w x) := by
  have k0 := below_one w (.cells zTok 81)
  have hz := heap_alloc_new w (.cells zTok 81)
  obtain ⟨m, hm⟩ : ∃ m, wordLen (s.data.toList.drop (a + 1)) = m := ⟨_, rfl⟩
  have hml := wordLen_le (s.data.toList.drop (a + 1))
  rw [hm, List.length_drop] at hml
  have hll : s.data.toList.length = s.size := by simp
  obtain ⟨W, hW⟩ : ∃ W, s.extract a (a + (1 + m)) = W := ⟨_, rfl⟩
  have hWl : (s.data.toList.drop a).take (1 + wordLen ((s.data.toList.drop a).drop 1)) = W.data.toList := by rw [List.drop_drop, hm, ← piece, hW]
  rw [hWl] at hx
  have hWs : W.size = 1 + m := by rw [← hW]; simp; omega
  have hW2 : s.extract a (a + 1 + m) = W := by rw [← hW, Nat.add_assoc]
  obtain ⟨⟨v, q⟩, hp⟩ : ∃ p, parseL W.data.toList = p := ⟨_, rfl⟩
  have H0 := fun W => hid (ref_letter s[a] W hl)
  have H2 := fun W => hid (ref_word s (a + 1) (by omega) W hs (x := a + 1 + m) (by rw [hm]))
  have H3 := fun W' => hid (ref_parse W W' (by omega) hp)
  unfold litTok at hx
  rw [hp] at hx
  have hlm : a + 1 + m ≤ s.size := by omega
  have hWl2 : W.size ≤ 100000 := by omega
  have hways := num_ways_at s a ha hn
  have eN : ((a : Int) + 1 + m).toNat = a + 1 + m := by omega
  have HX := hid hx
  clear hp hWl hl hm hml hll hWs hn hx hW
  rcases hways with ⟨_, d1⟩ | ⟨h1, _, d1, d2, d3⟩ | ⟨h, _⟩ | ⟨h, _⟩ | ⟨_, h, _⟩
  · have H1 := fun W => hid (ref_digit s[a] W d1)
    clear d1
    by_cases hq : q = 0
    · subst hq
      have hx := HX.out
      rw [if_pos rfl] at hx
      subst hx
      clear HX
      go_enter Tryz.func82, Tryz.ntmps82
      go_wp2_with fail
      refine (H0 _).out.mono ?_
      rintro e w1 ⟨rfl, rfl⟩
      go_wp2_with fail
      refine (H1 _).out.mono ?_
      rintro e w1 ⟨rfl, rfl⟩
      go_wp2_with fail
      refine (H2 _).out.mono ?_
      rintro e w1 ⟨rfl, rfl⟩
      go_wp2_with fail
      refine (H3 _).out.mono ?_
      rintro e w1 ⟨rfl, b1⟩
      have hz1 := res_keep hz b1 (by simp)
      have k1 := k0.trans (b1.mono k0.size)
      have hz2 := res_keep hz1 (below_one w1 (.cells #[.int .i64 v.k, .int .i64 v.n, .string v.s] 79)) (by have := b1.size; simp at this; omega)
      have k2 := k1.trans ((below_one w1 (.cells #[.int .i64 v.k, .int .i64 v.n, .string v.s] 79)).mono k1.size)
      clear b1 hz1 k1 H0 H1 H2 H3
      go_wp2_with (refine wpList_store_res rfl rfl rfl rfl hz2 infoTokR rfl rfl ?_; intro w9 hz9 hb9)
      refine bodyPost_ret (by simp [results, Tryz.results82, go_sem, cell_res hz9]; rfl) rfl ?_
      exact ⟨retT_txt (arr_back W), k2.trans hb9⟩
    · have bq : (q != 0) = true := by simpa using hq
      have hx := HX.out
      rw [if_neg hq] at hx
      subst hx
      clear HX hq
      go_enter Tryz.func82, Tryz.ntmps82
      go_wp2_with fail
      refine (H0 _).out.mono ?_
      rintro e w1 ⟨rfl, rfl⟩
      go_wp2_with fail
      refine (H1 _).out.mono ?_
      rintro e w1 ⟨rfl, rfl⟩
      go_wp2_with fail
      refine (H2 _).out.mono ?_
      rintro e w1 ⟨rfl, rfl⟩
      go_wp2_with fail
      refine (H3 _).out.mono ?_
      rintro e w1 ⟨rfl, b1⟩
      have hz1 := res_keep hz b1 (by simp)
      have k1 := k0.trans (b1.mono k0.size)
      have hz2 := res_keep hz1 (below_one w1 (.cells #[.int .i64 v.k, .int .i64 v.n, .string v.s] 79)) (by have := b1.size; simp at this; omega)
      have k2 := k1.trans ((below_one w1 (.cells #[.int .i64 v.k, .int .i64 v.n, .string v.s] 79)).mono k1.size)
      clear b1 hz1 k1 H0 H1 H2 H3
      go_wp2_with (refine wpList_store_res rfl rfl rfl rfl hz2 infoTokR rfl rfl ?_; intro w9 hz9 hb9)
      refine bodyPost_ret (by simp [results, Tryz.results82, go_sem, cell_res hz9]; rfl) rfl ?_
      exact ⟨rfl, k2.trans hb9⟩
  · have H1 := fun W => hid (ref_digit s[a] W d1)
    have H4 := fun W => hid (ref_digit s[a + 1] W d3)
    have b45 : ((s[a].toNat : Int) == 45) = true := by rw [d2]; rfl
    clear d2 d3
    clear d1
    by_cases hq : q = 0
    · subst hq
      have hx := HX.out
      rw [if_pos rfl] at hx
      subst hx
      clear HX
      go_enter Tryz.func82, Tryz.ntmps82
      go_wp2_with fail
      refine (H0 _).out.mono ?_
      rintro e w1 ⟨rfl, rfl⟩
      go_wp2_with fail
      refine (H1 _).out.mono ?_
      rintro e w1 ⟨rfl, rfl⟩
      go_wp2_with fail
      refine (H4 _).out.mono ?_
      rintro e w1 ⟨rfl, rfl⟩
      go_wp2_with fail
      refine (H2 _).out.mono ?_
      rintro e w1 ⟨rfl, rfl⟩
      go_wp2_with fail
      refine (H3 _).out.mono ?_
      rintro e w1 ⟨rfl, b1⟩
      have hz1 := res_keep hz b1 (by simp)
      have k1 := k0.trans (b1.mono k0.size)
      have hz2 := res_keep hz1 (below_one w1 (.cells #[.int .i64 v.k, .int .i64 v.n, .string v.s] 79)) (by have := b1.size; simp at this; omega)
      have k2 := k1.trans ((below_one w1 (.cells #[.int .i64 v.k, .int .i64 v.n, .string v.s] 79)).mono k1.size)
      clear b1 hz1 k1 H0 H1 H2 H3
      go_wp2_with (refine wpList_store_res rfl rfl rfl rfl hz2 infoTokR rfl rfl ?_; intro w9 hz9 hb9)
      refine bodyPost_ret (by simp [results, Tryz.results82, go_sem, cell_res hz9]; rfl) rfl ?_
      exact ⟨retT_txt (arr_back W), k2.trans hb9⟩
    · have bq : (q != 0) = true := by simpa using hq
      have hx := HX.out
      rw [if_neg hq] at hx
      subst hx
      clear HX hq
      go_enter Tryz.func82, Tryz.ntmps82
      go_wp2_with fail
      refine (H0 _).out.mono ?_
      rintro e w1 ⟨rfl, rfl⟩
      go_wp2_with fail
      refine (H1 _).out.mono ?_
      rintro e w1 ⟨rfl, rfl⟩
      go_wp2_with fail
      refine (H4 _).out.mono ?_
      rintro e w1 ⟨rfl, rfl⟩
      go_wp2_with fail
      refine (H2 _).out.mono ?_
      rintro e w1 ⟨rfl, rfl⟩
      go_wp2_with fail
      refine (H3 _).out.mono ?_
      rintro e w1 ⟨rfl, b1⟩
      have hz1 := res_keep hz b1 (by simp)
      have k1 := k0.trans (b1.mono k0.size)
      have hz2 := res_keep hz1 (below_one w1 (.cells #[.int .i64 v.k, .int .i64 v.n, .string v.s] 79)) (by have := b1.size; simp at this; omega)
      have k2 := k1.trans ((below_one w1 (.cells #[.int .i64 v.k, .int .i64 v.n, .string v.s] 79)).mono k1.size)
      clear b1 hz1 k1 H0 H1 H2 H3
      go_wp2_with (refine wpList_store_res rfl rfl rfl rfl hz2 infoTokR rfl rfl ?_; intro w9 hz9 hb9)
      refine bodyPost_ret (by simp [results, Tryz.results82, go_sem, cell_res hz9]; rfl) rfl ?_
      exact ⟨rfl, k2.trans hb9⟩
  · cases h
  · cases h
  · cases h

set_option maxRecDepth 100000 in
set_option maxHeartbeats 2000000 in
theorem ref_next_str (s : ByteArray) (a : Nat) (ha : a < s.size) (w : World) (hs : s.size ≤ 100000) (h34 : s[a] = 34) {x : Tok × Int} (hx : (match strLen (s.data.toList.drop a) with
      | none => (T0, 14)
      | some n => litTok 3 ((s.data.toList.drop a).take n) a) = x) :
    Calls Tryz.prog 82 #[.string s, .int .i64 a] w (RetT w x) := by
  have k0 := below_one w (.cells zTok 81)
  have hz := heap_alloc_new w (.cells zTok 81)
  have H0 := fun W => hid (ref_letter s[a] W (x := false) (by rw [h34]; rfl))
  have H1 := fun W => hid (ref_digit s[a] W (x := false) (by rw [h34]; rfl))
  have b45 : ((s[a].toNat : Int) == 45) = false := by rw [h34]; rfl
  have b34 : ((s[a].toNat : Int) == 34) = true := by rw [h34]; rfl
  clear h34
  cases hsl : strLen (s.data.toList.drop a) with
  | none =>
    rw [hsl] at hx
    subst hx
    have H2 := fun W => hid (ref_quote s a ha W hs (x := -1) (by rw [hsl]; rfl))
    clear hsl
    go_enter Tryz.func82, Tryz.ntmps82
    go_wp2_with fail
    refine (H0 _).out.mono ?_
    rintro e w1 ⟨rfl, rfl⟩
    go_wp2_with fail
    refine (H1 _).out.mono ?_
    rintro e w1 ⟨rfl, rfl⟩
    go_wp2_with fail
    refine (H2 _).out.mono ?_
    rintro e w1 ⟨rfl, rfl⟩
    go_wp2_with (refine wpList_store_res rfl rfl rfl rfl hz infoTokR rfl rfl ?_; intro w9 hz9 hb9)
    refine bodyPost_ret (by simp [results, Tryz.results82, go_sem, cell_res hz9]; rfl) rfl ?_
    exact ⟨rfl, k0.trans hb9⟩
  | some m =>
    rw [hsl] at hx
    have hle := (strLen_le hsl).2
    rw [List.length_drop] at hle
    have hll : s.data.toList.length = s.size := by simp
    have H2 := fun W => hid (ref_quote s a ha W hs (x := ((a + m : Nat) : Int)) (by rw [hsl]; rfl))
    obtain ⟨W, hW⟩ : ∃ W, s.extract a (a + m) = W := ⟨_, rfl⟩
    have hWl : (s.data.toList.drop a).take m = W.data.toList := by rw [← piece, hW]
    have hWs : W.size = m := by rw [← hW]; simp; omega
    simp only at hx
    rw [hWl] at hx
    obtain ⟨⟨v, q⟩, hp⟩ : ∃ p, parseL W.data.toList = p := ⟨_, rfl⟩
    have H3 := fun W' => hid (ref_parse W W' (by omega) hp)
    unfold litTok at hx
    rw [hp] at hx
    have hlm : a + m ≤ s.size := by omega
    have hWl2 : W.size ≤ 100000 := by omega
    clear hp hWl hll hWs hsl hle
    by_cases hq : q = 0
    · subst hq
      rw [if_pos rfl] at hx
      subst hx
      go_enter Tryz.func82, Tryz.ntmps82
      go_wp2_with fail
      refine (H0 _).out.mono ?_
      rintro e w1 ⟨rfl, rfl⟩
      go_wp2_with fail
      refine (H1 _).out.mono ?_
      rintro e w1 ⟨rfl, rfl⟩
      go_wp2_with fail
      refine (H2 _).out.mono ?_
      rintro e w1 ⟨rfl, rfl⟩
      go_wp2_with fail
      refine (H3 _).out.mono ?_
      rintro e w1 ⟨rfl, b1⟩
      have hz1 := res_keep hz b1 (by simp)
      have k1 := k0.trans (b1.mono k0.size)
      have hz2 := res_keep hz1 (below_one w1 (.cells #[.int .i64 v.k, .int .i64 v.n, .string v.s] 79)) (by have := b1.size; simp at this; omega)
      have k2 := k1.trans ((below_one w1 (.cells #[.int .i64 v.k, .int .i64 v.n, .string v.s] 79)).mono k1.size)
      clear b1 hz1 k1 H0 H1 H2 H3
      go_wp2_with fail
      have hA : (a : Int) + m ≤ s.size := by omega
      have hB : (a : Int) ≤ (a : Int) + m := by omega
      have eN : ((a : Int) + m).toNat = a + m := by omega
      have hzv := heap_alloc_new w1 (.cells #[.int .i64 v.k, .int .i64 v.n, .string v.s] 79)
      have c0 := cell_res hzv 0
      have c1 := cell_res hzv 1
      have c2 := cell_res hzv 2
      clear hzv
      generalize w1.alloc (.cells #[.int .i64 v.k, .int .i64 v.n, .string v.s] 79) = w4 at *
      generalize w1.heap.size = g at *
      go_still_tail 7, (by kernel_rfl)
      change wpList _ _ _ _ _ w4.drew
      have k3 := k2.drew
      have hz3 : w4.drew.heap[w.heap.size]? = some (.cells zTok 81) := hz2
      generalize w4.drew = w5 at *
      go_wp2_with (refine wpList_store_res rfl rfl rfl rfl hz3 infoTokR rfl rfl ?_; intro w9 hz9 hb9)
      refine bodyPost_ret (by simp [results, Tryz.results82, go_sem, cell_res hz9]; rfl) rfl ?_
      exact ⟨retT_txt (arr_back W), k3.trans hb9⟩
    · have bq : (q != 0) = true := by simpa using hq
      rw [if_neg hq] at hx
      subst hx
      clear hq
      go_enter Tryz.func82, Tryz.ntmps82
      go_wp2_with fail
      refine (H0 _).out.mono ?_
      rintro e w1 ⟨rfl, rfl⟩
      go_wp2_with fail
      refine (H1 _).out.mono ?_
      rintro e w1 ⟨rfl, rfl⟩
      go_wp2_with fail
      refine (H2 _).out.mono ?_
      rintro e w1 ⟨rfl, rfl⟩
      go_wp2_with fail
      refine (H3 _).out.mono ?_
      rintro e w1 ⟨rfl, b1⟩
      have hz1 := res_keep hz b1 (by simp)
      have k1 := k0.trans (b1.mono k0.size)
      have hz2 := res_keep hz1 (below_one w1 (.cells #[.int .i64 v.k, .int .i64 v.n, .string v.s] 79)) (by have := b1.size; simp at this; omega)
      have k2 := k1.trans ((below_one w1 (.cells #[.int .i64 v.k, .int .i64 v.n, .string v.s] 79)).mono k1.size)
      clear b1 hz1 k1 H0 H1 H2 H3
      go_wp2_with (refine wpList_store_res rfl rfl rfl rfl hz2 infoTokR rfl rfl ?_; intro w9 hz9 hb9)
      refine bodyPost_ret (by simp [results, Tryz.results82, go_sem, cell_res hz9]; rfl) rfl ?_
      exact ⟨rfl, k2.trans hb9⟩
end
end Go.Proofs.YtnbacdmlaedppaaGreatDoor
