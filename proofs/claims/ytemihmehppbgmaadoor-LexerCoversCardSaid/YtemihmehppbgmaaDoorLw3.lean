/-
  WALK: lexer.next.
-/
import Derived.Test.YtemihmehppbgmaaDoorLw3a
import Derived.Test.YtemihmehppbgmaaDoorLw3b
import Derived.Test.YtemihmehppbgmaaDoorLw3c
namespace Go.Proofs.YtemihmehppbgmaaDoor
open Go.RowKit

set_option maxRecDepth 100000 in
set_option maxHeartbeats 1000000 in
theorem lex_next (s : ByteArray) (a : Nat) (w : World) (hE : EnvL w) (ha : a < s.size) (hs : s.size ≤ 100000) {x : Tok × Int} (hx : nextL (s.data.toList.drop a) a = x) :
    Calls Tryd.prog 22 #[.string s, .int .i64 a] w (RetT w x) := by
  have k0 := below_one w (.cells zTok 37)
  have hz := heap_alloc_new w (.cells zTok 37)
  obtain ⟨D, hD⟩ : ∃ D : ByteArray, s.extract a s.size = D := ⟨_, rfl⟩
  have hDl : s.data.toList.drop a = D.data.toList := by rw [← hD, drop_extract]
  have hDs : D.size = s.size - a := by rw [← hD]; simp
  have hp : 0 < D.size := by omega
  have hDm : D.size ≤ 100000 := by omega
  rw [hDl] at hx
  unfold nextL at hx
  rw [getD_of hp] at hx
  clear hDl hDs
  cases hl : letB D[0]
  · rw [hl, if_neg (by decide)] at hx
    have H0 := fun W => hid (lex_letter D[0] W hl)
    cases hn : numB D.data.toList
    · rw [hn, if_neg (by decide)] at hx
      have hways : (digB D[0] = false ∧ ((D[0].toNat : Int) == 45) = false) ∨ (digB D[0] = false ∧ ((D[0].toNat : Int) == 45) = true ∧ D.size ≤ 1) ∨ (∃ h1 : 1 < D.size, digB D[0] = false ∧ ((D[0].toNat : Int) == 45) = true ∧ digB D[1] = false) := by
        rcases num_ways D hp hn with ⟨h, _⟩ | ⟨_, h, _⟩ | ⟨_, d1, d2⟩ | ⟨_, d1, d2, d3⟩ | ⟨h1, _, d1, d2, d3⟩
        · cases h
        · cases h
        · left; exact ⟨d1, by simp; omega⟩
        · right; left; exact ⟨d1, by rw [d2]; rfl, d3⟩
        · right; right; exact ⟨h1, d1, by rw [d2]; rfl, d3⟩
      by_cases h34 : D[0] = 34
      · rw [if_pos h34] at hx
        have b34 : ((D[0].toNat : Int) == 34) = true := by rw [h34]; rfl
        cases hsl : strLen D.data.toList with
        | none =>
          rw [hsl] at hx
          subst hx
          have H2 := fun W => hid (lex_stringLength D W hp hDm (n := 0) (b := false) (by rw [hsl]; rfl))
          clear hE hl hn hsl h34
          rcases hways with ⟨d1, d2⟩ | ⟨d1, d2, d3⟩ | ⟨h1, d1, d2, d3⟩
          · have H1 := fun W => hid (lex_digit D[0] W d1)
            clear d1
            go_enter Tryd.func22, Tryd.ntmps22
            go_wp2_with fail
            refine ((H0 _).out).mono ?_
            rintro e w1 ⟨rfl, rfl⟩
            go_wp2_with fail
            refine ((H1 _).out).mono ?_
            rintro e w1 ⟨rfl, rfl⟩
            go_wp2_with fail
            refine ((H2 _).out).mono ?_
            rintro e w1 ⟨rfl, rfl⟩
            go_wp2_with (refine wpList_store_res rfl rfl rfl rfl hz infoTok rfl rfl ?_; intro w9 hz9 hb9)
            refine bodyPost_ret (by simp [results, Tryd.results22, go_sem, cell_res hz9]; rfl) rfl ?_
            exact ⟨rfl, k0.trans hb9⟩
          · have H1 := fun W => hid (lex_digit D[0] W d1)
            clear d1
            go_enter Tryd.func22, Tryd.ntmps22
            go_wp2_with fail
            refine ((H0 _).out).mono ?_
            rintro e w1 ⟨rfl, rfl⟩
            go_wp2_with fail
            refine ((H1 _).out).mono ?_
            rintro e w1 ⟨rfl, rfl⟩
            go_wp2_with fail
            refine ((H2 _).out).mono ?_
            rintro e w1 ⟨rfl, rfl⟩
            go_wp2_with (refine wpList_store_res rfl rfl rfl rfl hz infoTok rfl rfl ?_; intro w9 hz9 hb9)
            refine bodyPost_ret (by simp [results, Tryd.results22, go_sem, cell_res hz9]; rfl) rfl ?_
            exact ⟨rfl, k0.trans hb9⟩
          · have H1 := fun W => hid (lex_digit D[0] W d1)
            have H4 := fun W => hid (lex_digit D[1] W d3)
            clear d1 d3
            go_enter Tryd.func22, Tryd.ntmps22
            go_wp2_with fail
            refine ((H0 _).out).mono ?_
            rintro e w1 ⟨rfl, rfl⟩
            go_wp2_with fail
            refine ((H1 _).out).mono ?_
            rintro e w1 ⟨rfl, rfl⟩
            go_wp2_with fail
            refine ((H4 _).out).mono ?_
            rintro e w1 ⟨rfl, rfl⟩
            go_wp2_with fail
            refine ((H2 _).out).mono ?_
            rintro e w1 ⟨rfl, rfl⟩
            go_wp2_with (refine wpList_store_res rfl rfl rfl rfl hz infoTok rfl rfl ?_; intro w9 hz9 hb9)
            refine bodyPost_ret (by simp [results, Tryd.results22, go_sem, cell_res hz9]; rfl) rfl ?_
            exact ⟨rfl, k0.trans hb9⟩
        | some m =>
          rw [hsl] at hx
          have hle := (strLen_le hsl).2
          have hll : D.data.toList.length = D.size := by simp
          rw [hll] at hle
          have H2 := fun W => hid (lex_stringLength D W hp hDm (n := m) (b := true) (by rw [hsl]; rfl))
          obtain ⟨B, hB⟩ : ∃ B : ByteArray, D.extract 0 m = B := ⟨_, rfl⟩
          have hBl : D.data.toList.take m = B.data.toList := by
            rw [← hB]; simp [ByteArray.data_extract, Array.toList_extract, List.extract]
          have hBs : B.size ≤ 100000 := by rw [← hB]; simp; omega
          simp only at hx
          rw [hBl] at hx
          have H3 := fun W (h : Below w.heap.size w W) => hid (lex_literal 3 B a W hBs (hE.below h).env.err hx)
          clear hx hE hl hn hsl h34 hBl hll
          rcases hways with ⟨d1, d2⟩ | ⟨d1, d2, d3⟩ | ⟨h1, d1, d2, d3⟩
          · have H1 := fun W => hid (lex_digit D[0] W d1)
            clear d1
            go_enter Tryd.func22, Tryd.ntmps22
            go_wp2_with fail
            refine ((H0 _).out).mono ?_
            rintro e w1 ⟨rfl, rfl⟩
            go_wp2_with fail
            refine ((H1 _).out).mono ?_
            rintro e w1 ⟨rfl, rfl⟩
            go_wp2_with fail
            refine ((H2 _).out).mono ?_
            rintro e w1 ⟨rfl, rfl⟩
            go_wp2_with fail
            refine ((H3 _ k0).out).mono ?_
            rintro e w1 ⟨rfl, b1⟩
            have hz1 := res_keep hz b1 (by simp)
            have k1 := k0.trans (b1.mono k0.size)
            go_wp2_with (refine wpList_store_res rfl rfl rfl rfl hz1 infoTok rfl rfl ?_; intro w9 hz9 hb9)
            refine bodyPost_ret (by simp [results, Tryd.results22, go_sem, cell_res hz9]; rfl) rfl ?_
            exact ⟨rfl, k1.trans hb9⟩
          · have H1 := fun W => hid (lex_digit D[0] W d1)
            clear d1
            go_enter Tryd.func22, Tryd.ntmps22
            go_wp2_with fail
            refine ((H0 _).out).mono ?_
            rintro e w1 ⟨rfl, rfl⟩
            go_wp2_with fail
            refine ((H1 _).out).mono ?_
            rintro e w1 ⟨rfl, rfl⟩
            go_wp2_with fail
            refine ((H2 _).out).mono ?_
            rintro e w1 ⟨rfl, rfl⟩
            go_wp2_with fail
            refine ((H3 _ k0).out).mono ?_
            rintro e w1 ⟨rfl, b1⟩
            have hz1 := res_keep hz b1 (by simp)
            have k1 := k0.trans (b1.mono k0.size)
            go_wp2_with (refine wpList_store_res rfl rfl rfl rfl hz1 infoTok rfl rfl ?_; intro w9 hz9 hb9)
            refine bodyPost_ret (by simp [results, Tryd.results22, go_sem, cell_res hz9]; rfl) rfl ?_
            exact ⟨rfl, k1.trans hb9⟩
          · have H1 := fun W => hid (lex_digit D[0] W d1)
            have H4 := fun W => hid (lex_digit D[1] W d3)
            clear d1 d3
            go_enter Tryd.func22, Tryd.ntmps22
            go_wp2_with fail
            refine ((H0 _).out).mono ?_
            rintro e w1 ⟨rfl, rfl⟩
            go_wp2_with fail
            refine ((H1 _).out).mono ?_
            rintro e w1 ⟨rfl, rfl⟩
            go_wp2_with fail
            refine ((H4 _).out).mono ?_
            rintro e w1 ⟨rfl, rfl⟩
            go_wp2_with fail
            refine ((H2 _).out).mono ?_
            rintro e w1 ⟨rfl, rfl⟩
            go_wp2_with fail
            refine ((H3 _ k0).out).mono ?_
            rintro e w1 ⟨rfl, b1⟩
            have hz1 := res_keep hz b1 (by simp)
            have k1 := k0.trans (b1.mono k0.size)
            go_wp2_with (refine wpList_store_res rfl rfl rfl rfl hz1 infoTok rfl rfl ?_; intro w9 hz9 hb9)
            refine bodyPost_ret (by simp [results, Tryd.results22, go_sem, cell_res hz9]; rfl) rfl ?_
            exact ⟨rfl, k1.trans hb9⟩
      · rw [if_neg h34] at hx
        have b34 : ((D[0].toNat : Int) == 34) = false := by
          have : D[0].toNat ≠ 34 := fun e => h34 (UInt8.toNat.inj e)
          simp; omega
        rcases hways with ⟨d1, d2⟩ | ⟨d1, d2, d3⟩ | ⟨h1, d1, d2, d3⟩
        · exact lex_next_sym1 s a w hE ha hs D hD hp hDm hl d1 d2 b34 hx
        · exact lex_next_sym2 s a w hE ha hs D hD hp hDm hl d1 d2 d3 b34 hx
        · exact lex_next_sym3 s a w hE ha hs D hD hp hDm hl h1 d1 d2 d3 b34 hx
    · rw [hn, if_pos rfl] at hx
      obtain ⟨m, hm⟩ : ∃ m, wordLen (D.data.toList.drop 1) = m := ⟨_, rfl⟩
      have hmle : m + 1 ≤ D.size := by
        have := wordLen_le (D.data.toList.drop 1)
        rw [hm, List.length_drop] at this
        have hll : D.data.toList.length = D.size := by simp
        omega
      rw [hm] at hx
      have H2 := fun W => hid (lex_wordLength (D.extract 1 D.size) W (by simp; omega) (x := m) (by rw [drop_extract]; exact hm))
      obtain ⟨B, hB⟩ : ∃ B : ByteArray, D.extract 0 (1 + m) = B := ⟨_, rfl⟩
      have hBl : D.data.toList.take (1 + m) = B.data.toList := by
        rw [← hB]; simp [ByteArray.data_extract, Array.toList_extract, List.extract]
      have hBs : B.size ≤ 100000 := by rw [← hB]; simp; omega
      rw [hBl] at hx
      have H3 := fun W (h : Below w.heap.size w W) => hid (lex_literal 2 B a W hBs (hE.below h).env.err hx)
      rcases num_ways D hp hn with ⟨_, d1⟩ | ⟨h1, _, d1, d2, d3⟩ | ⟨h, _⟩ | ⟨h, _⟩ | ⟨_, h, _⟩
      · have H1 := fun W => hid (lex_digit D[0] W d1)
        clear hx hE hl hn hm hBl d1
        go_enter Tryd.func22, Tryd.ntmps22
        go_wp2_with fail
        refine ((H0 _).out).mono ?_
        rintro e w1 ⟨rfl, rfl⟩
        go_wp2_with fail
        refine ((H1 _).out).mono ?_
        rintro e w1 ⟨rfl, rfl⟩
        go_wp2_with fail
        refine ((H2 _).out).mono ?_
        rintro e w1 ⟨rfl, rfl⟩
        go_wp2_with fail
        refine ((H3 _ k0).out).mono ?_
        rintro e w1 ⟨rfl, b1⟩
        have hz1 := res_keep hz b1 (by simp)
        have k1 := k0.trans (b1.mono k0.size)
        go_wp2_with (refine wpList_store_res rfl rfl rfl rfl hz1 infoTok rfl rfl ?_; intro w9 hz9 hb9)
        refine bodyPost_ret (by simp [results, Tryd.results22, go_sem, cell_res hz9]; rfl) rfl ?_
        exact ⟨rfl, k1.trans hb9⟩
      · have H1 := fun W => hid (lex_digit D[0] W d1)
        have H4 := fun W => hid (lex_digit D[1] W d3)
        clear hx hE hl hn hm hBl d1 d3
        have b45 : ((D[0].toNat : Int) == 45) = true := by rw [d2]; rfl
        clear d2
        go_enter Tryd.func22, Tryd.ntmps22
        go_wp2_with fail
        refine ((H0 _).out).mono ?_
        rintro e w1 ⟨rfl, rfl⟩
        go_wp2_with fail
        refine ((H1 _).out).mono ?_
        rintro e w1 ⟨rfl, rfl⟩
        go_wp2_with fail
        refine ((H4 _).out).mono ?_
        rintro e w1 ⟨rfl, rfl⟩
        go_wp2_with fail
        refine ((H2 _).out).mono ?_
        rintro e w1 ⟨rfl, rfl⟩
        go_wp2_with fail
        refine ((H3 _ k0).out).mono ?_
        rintro e w1 ⟨rfl, b1⟩
        have hz1 := res_keep hz b1 (by simp)
        have k1 := k0.trans (b1.mono k0.size)
        go_wp2_with (refine wpList_store_res rfl rfl rfl rfl hz1 infoTok rfl rfl ?_; intro w9 hz9 hb9)
        refine bodyPost_ret (by simp [results, Tryd.results22, go_sem, cell_res hz9]; rfl) rfl ?_
        exact ⟨rfl, k1.trans hb9⟩
      · cases h
      · cases h
      · cases h
  · rw [hl, if_pos rfl] at hx
    have H0 := fun W => hid (lex_letter D[0] W hl)
    have H1 := fun W => hid (lex_word D a W hDm hx)
    clear hx hE hl
    go_enter Tryd.func22, Tryd.ntmps22
    go_wp2_with fail
    refine ((H0 _).out).mono ?_
    rintro e w1 ⟨rfl, rfl⟩
    go_wp2_with fail
    refine ((H1 _).out).mono ?_
    rintro e w1 ⟨rfl, b1⟩
    have hz1 := res_keep hz b1 (by simp)
    have k1 := k0.trans (b1.mono k0.size)
    go_wp2_with (refine wpList_store_res rfl rfl rfl rfl hz1 infoTok rfl rfl ?_; intro w9 hz9 hb9)
    refine bodyPost_ret (by simp [results, Tryd.results22, go_sem, cell_res hz9]; rfl) rfl ?_
    exact ⟨rfl, k1.trans hb9⟩
end Go.Proofs.YtemihmehppbgmaaDoor
