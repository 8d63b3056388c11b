/-
  WALKS: lexer.literal, word, next.
-/
import Derived.Test.YtemihmehppbgmaaDoorLw1
import Derived.Test.YtemihmehppbgmaaDoorPint
import Derived.Test.YtemihmehppbgmaaDoorShelf3
namespace Go.Proofs.YtemihmehppbgmaaDoor
open Go.RowKit

/-- A call that returns a token and an error's number. -/
def RetT (w : World) (x : Tok × Int) (e : Ending) (w' : World) : Prop :=
  e = .returned (.tuple #[.agg #[.int .i64 x.1.k, .string ⟨x.1.t.toArray⟩, .int .i64 x.1.v.k, .int .i64 x.1.v.n, .string x.1.v.s, .int .i64 x.1.a], .int .i64 x.2]) ∧ Below w.heap.size w w'
abbrev zTok : Array Value := #[.int .i64 0, .string ⟨#[]⟩, .int .i64 0, .int .i64 0, .string ⟨#[]⟩, .int .i64 0]
theorem infoTok : (Tryd.prog.info? 37).map (·.size) = some 6 := by kernel_rfl
theorem arr_back (s : ByteArray) : (⟨s.data.toList.toArray⟩ : ByteArray) = s := ByteArray.ext (by simp)
theorem cut_arr (s : ByteArray) (n : Nat) : (⟨(s.data.toList.take n).toArray⟩ : ByteArray) = s.extract 0 n := by
  rw [← arr_back (s.extract 0 n)]
  congr 2
  simp [ByteArray.data_extract, Array.toList_extract, List.extract]
theorem retT_of {x y : Tok × Int} {e : Ending} (h : x = y) (he : e = .returned (.tuple #[.agg #[.int .i64 x.1.k, .string ⟨x.1.t.toArray⟩, .int .i64 x.1.v.k, .int .i64 x.1.v.n, .string x.1.v.s, .int .i64 x.1.a], .int .i64 x.2])) :
    e = .returned (.tuple #[.agg #[.int .i64 y.1.k, .string ⟨y.1.t.toArray⟩, .int .i64 y.1.v.k, .int .i64 y.1.v.n, .string y.1.v.s, .int .i64 y.1.a], .int .i64 y.2]) := by subst h; exact he
theorem retT_txt {k a q : Int} {s : ByteArray} {l : List UInt8} {v : V} (h : (⟨l.toArray⟩ : ByteArray) = s) :
    Ending.returned (.tuple #[.agg #[.int .i64 k, .string s, .int .i64 v.k, .int .i64 v.n, .string v.s, .int .i64 a], .int .i64 q]) = .returned (.tuple #[.agg #[.int .i64 k, .string ⟨l.toArray⟩, .int .i64 v.k, .int .i64 v.n, .string v.s, .int .i64 a], .int .i64 q]) := by rw [h]

set_option maxRecDepth 100000 in
set_option maxHeartbeats 1000000 in
theorem lex_literal (k : Int) (s : ByteArray) (a : Int) (w : World) (hs : s.size ≤ 100000) (he : ErrAt w) {x : Tok × Int} (hx : litTok k s.data.toList a = x) :
    Calls Tryd.prog 42 #[.int .i64 k, .string s, .int .i64 a] w (RetT w x) := by
  have k0 := below_one w (.cells zTok 37)
  have hz := heap_alloc_new w (.cells zTok 37)
  obtain ⟨⟨v, q⟩, hp⟩ : ∃ p, parseL s.data.toList = p := ⟨_, rfl⟩
  have H1 := fun W (h : Below w.heap.size w W) => hid (parse_lit s W hs (he.below h) hp)
  unfold litTok at hx
  rw [hp] at hx
  by_cases hq : q = 0
  · subst hq
    rw [if_pos rfl] at hx
    subst hx
    clear hp he
    go_enter Tryd.func42, Tryd.ntmps42
    go_wp2_with fail
    refine (H1 _ k0).out.mono ?_
    rintro e w1 ⟨rfl, b1⟩
    have hz1 := res_keep hz b1 (by simp)
    have k1 := k0.trans (b1.mono k0.size)
    have hz2 := res_keep hz1 (below_one w1 (.cells #[.int .i64 v.k, .int .i64 v.n, .string v.s] 35)) (by have := b1.size; simp at this; omega)
    have k2 := k1.trans ((below_one w1 (.cells #[.int .i64 v.k, .int .i64 v.n, .string v.s] 35)).mono k1.size)
    clear b1 hz1 k1 H1
    go_wp2_with (refine wpList_store_res rfl rfl rfl rfl hz2 infoTok rfl rfl ?_; intro w9 hz9 hb9)
    refine bodyPost_ret (by simp [results, Tryd.results42, go_sem, cell_res hz9]; rfl) rfl ?_
    exact ⟨retT_txt (arr_back s), k2.trans hb9⟩
  · rw [if_neg hq] at hx
    subst hx
    have bq : (q != 0) = true := by simpa using hq
    clear hp he hq
    go_enter Tryd.func42, Tryd.ntmps42
    go_wp2_with fail
    refine (H1 _ k0).out.mono ?_
    rintro e w1 ⟨rfl, b1⟩
    have hz1 := res_keep hz b1 (by simp)
    have k1 := k0.trans (b1.mono k0.size)
    have hz2 := res_keep hz1 (below_one w1 (.cells #[.int .i64 v.k, .int .i64 v.n, .string v.s] 35)) (by have := b1.size; simp at this; omega)
    have k2 := k1.trans ((below_one w1 (.cells #[.int .i64 v.k, .int .i64 v.n, .string v.s] 35)).mono k1.size)
    clear b1 hz1 k1 H1
    go_wp2_with (refine wpList_store_res rfl rfl rfl rfl hz2 infoTok rfl rfl ?_; intro w9 hz9 hb9)
    refine bodyPost_ret (by simp [results, Tryd.results42, go_sem, cell_res hz9]; rfl) rfl ?_
    exact ⟨rfl, k2.trans hb9⟩

def kwB : List ByteArray := [⟨#[99, 111, 117, 110, 116]⟩, ⟨#[100, 101, 115, 99]⟩, ⟨#[109, 97, 120]⟩, ⟨#[109, 105, 110]⟩, ⟨#[110, 111, 116]⟩, ⟨#[111, 114, 100, 101, 114]⟩, ⟨#[115, 117, 109]⟩]
def kwCells : Array Value := (kwB.map Value.string).toArray
theorem kw_lists : kwB.map (fun b => b.data.toList) = keyL7 := rfl
theorem kw_contains (x : ByteArray) {b : Bool} (h : keyL7.contains x.data.toList = b) : Lib.containsS (kwB.take 7) x = b := by
  subst h
  have e : kwB.take 7 = kwB := rfl
  rw [e, Bool.eq_iff_iff, Lib.containsS_iff, List.contains_iff_mem, ← kw_lists, List.mem_map]
  constructor
  · intro h; exact ⟨x, h, rfl⟩
  · rintro ⟨y, hy, e⟩
    have : y = x := ByteArray.ext (Array.toList_inj.1 e)
    rw [← this]; exact hy
theorem lex_keywords (w : World) : Calls Tryd.prog 18 #[] w fun e w' => e = .returned (.slice (some ⟨w.heap.size, 0, none⟩) 7 7) ∧ w.alloc (.cells kwCells 9) = w' := by
  go_enter Tryd.func18, Tryd.ntmps18
  go_wp2
  go_ret
  exact ⟨rfl, rfl⟩
theorem kw_at (w : World) (g : Nat) (hg : g = w.heap.size) (x : ByteArray) {b : Bool} (h : keyL7.contains x.data.toList = b) :
    Calls Tryd.prog 61 #[.slice (some ⟨g, 0, none⟩) 7 7, .string x] (w.alloc (.cells kwCells 9)) fun e w' => e = .returned (.bool b) ∧ w.alloc (.cells kwCells 9) = w' := by
  subst hg
  have hc : ∀ j, j < kwB.length → (w.alloc (.cells kwCells 9)).cell? ⟨w.heap.size, 0 + j, none⟩ = some (.string (kwB.getD j ByteArray.empty)) := by
    intro j hj
    rw [cell_res (heap_alloc_new w _), Nat.zero_add]
    rw [List.getD_eq_getElem?_getD, List.getElem?_eq_getElem hj]
    simp [kwCells, hj]
  refine (Tryd.slices_Contains_string w.heap.size 0 7 7 kwB x _ (by decide) (by decide) hc).mono fun e w' ⟨h1, h2⟩ => ?_
  rw [kw_contains x h] at h1
  exact ⟨h1, h2.symm⟩

set_option maxRecDepth 100000 in
set_option maxHeartbeats 1000000 in
theorem lex_word (s : ByteArray) (a : Int) (w : World) (hs : s.size ≤ 100000) {x : Tok × Int} (hx : wordTok s.data.toList a = x) :
    Calls Tryd.prog 40 #[.string s, .int .i64 a] w (RetT w x) := by
  have k0 := below_one w (.cells zTok 37)
  have hz := heap_alloc_new w (.cells zTok 37)
  have hle := wordLen_le s.data.toList
  have hll : s.data.toList.length = s.size := by simp
  rw [hll] at hle
  obtain ⟨n, hn⟩ : ∃ n, wordLen s.data.toList = n := ⟨_, rfl⟩
  have H1 := fun W => hid (lex_wordLength s W hs hn)
  have H2 := fun W => hid (lex_keywords W)
  unfold wordTok at hx
  rw [hn] at hx hle
  obtain ⟨D, hD⟩ : ∃ D : ByteArray, s.extract 0 n = D := ⟨_, rfl⟩
  have hDl : s.data.toList.take n = D.data.toList := by
    rw [← hD]; simp [ByteArray.data_extract, Array.toList_extract, List.extract]
  have hDs : D.data.toList.length = D.size := by simp
  rw [hDl, hDs] at hx
  clear hll
  obtain ⟨b, hb⟩ : ∃ b, keyL7.contains D.data.toList = b := ⟨_, rfl⟩
  have H3 := fun W g hg => hid (kw_at W g hg D hb)
  rw [hb] at hx
  clear hb hDl hDs hn
  cases b
  · rw [if_neg (by decide)] at hx
    by_cases h16 : 16 < D.size
    · rw [if_pos h16] at hx
      subst hx
      go_enter Tryd.func40, Tryd.ntmps40
      go_wp2_with fail
      refine (H1 _).out.mono ?_
      rintro e w1 ⟨rfl, rfl⟩
      go_wp2_with fail
      refine (H2 _).out.mono ?_
      rintro e w2 ⟨rfl, rfl⟩
      go_wp2_with fail
      refine (H3 (w.alloc (.cells zTok 37)) (w.heap.size + 1) (by simp)).out.mono ?_
      rintro e w3 ⟨rfl, rfl⟩
      have k1 := k0.trans ((below_one (w.alloc (.cells zTok 37)) (.cells kwCells 9)).mono k0.size)
      have hz2 := res_keep hz (below_one _ (.cells kwCells 9)) (by simp)
      clear H1 H2 H3
      go_wp2_with (refine wpList_store_res rfl rfl rfl rfl hz2 infoTok rfl rfl ?_; intro w9 hz9 hb9)
      refine bodyPost_ret (by simp [results, Tryd.results40, go_sem, cell_res hz9]; rfl) rfl ?_
      exact ⟨rfl, k1.trans hb9⟩
    · rw [if_neg h16] at hx
      subst hx
      go_enter Tryd.func40, Tryd.ntmps40
      go_wp2_with fail
      refine (H1 _).out.mono ?_
      rintro e w1 ⟨rfl, rfl⟩
      go_wp2_with fail
      refine (H2 _).out.mono ?_
      rintro e w2 ⟨rfl, rfl⟩
      go_wp2_with fail
      refine (H3 (w.alloc (.cells zTok 37)) (w.heap.size + 1) (by simp)).out.mono ?_
      rintro e w3 ⟨rfl, rfl⟩
      have k1 := k0.trans ((below_one (w.alloc (.cells zTok 37)) (.cells kwCells 9)).mono k0.size)
      have hz2 := res_keep hz (below_one _ (.cells kwCells 9)) (by simp)
      clear H1 H2 H3
      go_wp2_with (refine wpList_store_res rfl rfl rfl rfl hz2 infoTok rfl rfl ?_; intro w9 hz9 hb9)
      refine bodyPost_ret (by simp [results, Tryd.results40, go_sem, cell_res hz9]; rfl) rfl ?_
      exact ⟨retT_txt (v := V0) (arr_back D), k1.trans hb9⟩
  · rw [if_pos rfl] at hx
    subst hx
    go_enter Tryd.func40, Tryd.ntmps40
    go_wp2_with fail
    refine (H1 _).out.mono ?_
    rintro e w1 ⟨rfl, rfl⟩
    go_wp2_with fail
    refine (H2 _).out.mono ?_
    rintro e w2 ⟨rfl, rfl⟩
    go_wp2_with fail
    refine (H3 (w.alloc (.cells zTok 37)) (w.heap.size + 1) (by simp)).out.mono ?_
    rintro e w3 ⟨rfl, rfl⟩
    have k1 := k0.trans ((below_one (w.alloc (.cells zTok 37)) (.cells kwCells 9)).mono k0.size)
    have hz2 := res_keep hz (below_one _ (.cells kwCells 9)) (by simp)
    clear H1 H2 H3
    go_wp2_with (refine wpList_store_res rfl rfl rfl rfl hz2 infoTok rfl rfl ?_; intro w9 hz9 hb9)
    refine bodyPost_ret (by simp [results, Tryd.results40, go_sem, cell_res hz9]; rfl) rfl ?_
    exact ⟨retT_txt (v := V0) (arr_back D), k1.trans hb9⟩
end Go.Proofs.YtemihmehppbgmaaDoor
