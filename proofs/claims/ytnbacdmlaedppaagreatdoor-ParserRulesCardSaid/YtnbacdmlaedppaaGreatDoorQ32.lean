/-
  PARTS of a claim, merged by segs.py: Lw2, SymIx, LwS.
-/
import Derived.Test.YtnbacdmlaedppaaGreatDoorQ31
import Derived.Test.YtnbacdmlaedppaaGreatDoorQ15
import Derived.Test.YtnbacdmlaedppaaGreatDoorShelf3
namespace Go.Proofs.YtnbacdmlaedppaaGreatDoor

/-! ### Lw2 -/
section
open Go.RowKit

/-- A call that returns a token and an error's number. -/
def RetT (w : World) (x : Tok × Int) (e : Ending) (w' : World) : Prop :=
  e = .returned (.tuple #[.agg #[.int .i64 x.1.k, .string ⟨x.1.t.toArray⟩, .int .i64 x.1.v.k, .int .i64 x.1.v.n, .string x.1.v.s, .int .i64 x.1.a], .int .i64 x.2]) ∧ Below w.heap.size w w'
abbrev zTok : Array Value := #[.int .i64 0, .string ⟨#[]⟩, .int .i64 0, .int .i64 0, .string ⟨#[]⟩, .int .i64 0]
theorem infoTok : (Tryz.prog.info? 58).map (·.size) = some 6 := by kernel_rfl
theorem arr_back (s : ByteArray) : (⟨s.data.toList.toArray⟩ : ByteArray) = s := ByteArray.ext (by simp)
theorem cut_arr (s : ByteArray) (n : Nat) : (⟨(s.data.toList.take n).toArray⟩ : ByteArray) = s.extract 0 n := by
  rw [← arr_back (s.extract 0 n)]
  congr 2
  simp [ByteArray.data_extract, Array.toList_extract, List.extract]
theorem retT_of {x y : Tok × Int} {e : Ending} (h : x = y) (he : e = .returned (.tuple #[.agg #[.int .i64 x.1.k, .string ⟨x.1.t.toArray⟩, .int .i64 x.1.v.k, .int .i64 x.1.v.n, .string x.1.v.s, .int .i64 x.1.a], .int .i64 x.2])) :
    e = .returned (.tuple #[.agg #[.int .i64 y.1.k, .string ⟨y.1.t.toArray⟩, .int .i64 y.1.v.k, .int .i64 y.1.v.n, .string y.1.v.s, .int .i64 y.1.a], .int .i64 y.2]) := by subst h; exact he
theorem retT_txt {k a q : Int} {s : ByteArray} {l : List UInt8} {v : V} (h : (⟨l.toArray⟩ : ByteArray) = s) :
    Ending.returned (.tuple #[.agg #[.int .i64 k, .string s, .int .i64 v.k, .int .i64 v.n, .string v.s, .int .i64 a], .int .i64 q]) = .returned (.tuple #[.agg #[.int .i64 k, .string ⟨l.toArray⟩, .int .i64 v.k, .int .i64 v.n, .string v.s, .int .i64 a], .int .i64 q]) := by rw [h]

set_option maxRecDepth 100000 in
set_option maxHeartbeats 1000000 in
theorem lex_literal (k : Int) (s : ByteArray) (a : Int) (w : World) (hs : s.size ≤ 100000) (he : ErrAt w) {x : Tok × Int} (hx : litTok k s.data.toList a = x) :
    Calls Tryz.prog 70 #[.int .i64 k, .string s, .int .i64 a] w (RetT w x) := by
  have k0 := below_one w (.cells zTok 58)
  have hz := heap_alloc_new w (.cells zTok 58)
  obtain ⟨⟨v, q⟩, hp⟩ : ∃ p, parseL s.data.toList = p := ⟨_, rfl⟩
  have H1 := fun W (h : Below w.heap.size w W) => hid (parse_lit s W hs (he.below h) hp)
  unfold litTok at hx
  rw [hp] at hx
  by_cases hq : q = 0
  · subst hq
    rw [if_pos rfl] at hx
    subst hx
    clear hp he
    go_enter Tryz.func70, Tryz.ntmps70
    go_wp2_with fail
    refine (H1 _ k0).out.mono ?_
    rintro e w1 ⟨rfl, b1⟩
    have hz1 := res_keep hz b1 (by simp)
    have k1 := k0.trans (b1.mono k0.size)
    have hz2 := res_keep hz1 (below_one w1 (.cells #[.int .i64 v.k, .int .i64 v.n, .string v.s] 56)) (by have := b1.size; simp at this; omega)
    have k2 := k1.trans ((below_one w1 (.cells #[.int .i64 v.k, .int .i64 v.n, .string v.s] 56)).mono k1.size)
    clear b1 hz1 k1 H1
    go_wp2_with (refine wpList_store_res rfl rfl rfl rfl hz2 infoTok rfl rfl ?_; intro w9 hz9 hb9)
    refine bodyPost_ret (by simp [results, Tryz.results70, go_sem, cell_res hz9]; rfl) rfl ?_
    exact ⟨retT_txt (arr_back s), k2.trans hb9⟩
  · rw [if_neg hq] at hx
    subst hx
    have bq : (q != 0) = true := by simpa using hq
    clear hp he hq
    go_enter Tryz.func70, Tryz.ntmps70
    go_wp2_with fail
    refine (H1 _ k0).out.mono ?_
    rintro e w1 ⟨rfl, b1⟩
    have hz1 := res_keep hz b1 (by simp)
    have k1 := k0.trans (b1.mono k0.size)
    have hz2 := res_keep hz1 (below_one w1 (.cells #[.int .i64 v.k, .int .i64 v.n, .string v.s] 56)) (by have := b1.size; simp at this; omega)
    have k2 := k1.trans ((below_one w1 (.cells #[.int .i64 v.k, .int .i64 v.n, .string v.s] 56)).mono k1.size)
    clear b1 hz1 k1 H1
    go_wp2_with (refine wpList_store_res rfl rfl rfl rfl hz2 infoTok rfl rfl ?_; intro w9 hz9 hb9)
    refine bodyPost_ret (by simp [results, Tryz.results70, go_sem, cell_res hz9]; rfl) rfl ?_
    exact ⟨rfl, k2.trans hb9⟩

def kwB : List ByteArray := [⟨#[99, 111, 117, 110, 116]⟩, ⟨#[100, 101, 115, 99]⟩, ⟨#[109, 97, 120]⟩, ⟨#[109, 105, 110]⟩, ⟨#[110, 111, 116]⟩, ⟨#[111, 114, 100, 101, 114]⟩, ⟨#[115, 117, 109]⟩]
def kwCells : Array Value := (kwB.map Value.string).toArray
theorem kw_lists : kwB.map (fun b => b.data.toList) = keyL7 := rfl
theorem kw_contains (x : ByteArray) {b : Bool} (h : keyL7.contains x.data.toList = b) : Lib.containsS (kwB.take 7) x = b := by
  subst h
  have e : kwB.take 7 = kwB := rfl
  rw [e, Bool.eq_iff_iff, Lib.containsS_iff, List.contains_iff_mem, ← kw_lists, List.mem_map]
  constructor
  · intro h; exact ⟨x, h, rfl⟩
  · rintro ⟨y, hy, e⟩
    have : y = x := ByteArray.ext (Array.toList_inj.1 e)
    rw [← this]; exact hy
theorem lex_keywords (w : World) : Calls Tryz.prog 99 #[] w fun e w' => e = .returned (.slice (some ⟨w.heap.size, 0, none⟩) 7 7) ∧ w.alloc (.cells kwCells 9) = w' := by
  go_enter Tryz.func99, Tryz.ntmps99
  go_wp2
  go_ret
  exact ⟨rfl, rfl⟩
theorem kw_at (w : World) (g : Nat) (hg : g = w.heap.size) (x : ByteArray) {b : Bool} (h : keyL7.contains x.data.toList = b) :
    Calls Tryz.prog 58 #[.slice (some ⟨g, 0, none⟩) 7 7, .string x] (w.alloc (.cells kwCells 9)) fun e w' => e = .returned (.bool b) ∧ w.alloc (.cells kwCells 9) = w' := by
  subst hg
  have hc : ∀ j, j < kwB.length → (w.alloc (.cells kwCells 9)).cell? ⟨w.heap.size, 0 + j, none⟩ = some (.string (kwB.getD j ByteArray.empty)) := by
    intro j hj
    rw [cell_res (heap_alloc_new w _), Nat.zero_add]
    rw [List.getD_eq_getElem?_getD, List.getElem?_eq_getElem hj]
    simp [kwCells, hj]
  refine (Tryz.slices_Contains_string w.heap.size 0 7 7 kwB x _ (by decide) (by decide) hc).mono fun e w' ⟨h1, h2⟩ => ?_
  rw [kw_contains x h] at h1
  exact ⟨h1, h2.symm⟩

set_option maxRecDepth 100000 in
set_option maxHeartbeats 1000000 in
theorem lex_word (s : ByteArray) (a : Int) (w : World) (hs : s.size ≤ 100000) {x : Tok × Int} (hx : wordTok s.data.toList a = x) :
    Calls Tryz.prog 68 #[.string s, .int .i64 a] w (RetT w x) := by
  have k0 := below_one w (.cells zTok 58)
  have hz := heap_alloc_new w (.cells zTok 58)
  have hle := wordLen_le s.data.toList
  have hll : s.data.toList.length = s.size := by simp
  rw [hll] at hle
  obtain ⟨n, hn⟩ : ∃ n, wordLen s.data.toList = n := ⟨_, rfl⟩
  have H1 := fun W => hid (lex_wordLength s W hs hn)
  have H2 := fun W => hid (lex_keywords W)
  unfold wordTok at hx
  rw [hn] at hx hle
  obtain ⟨D, hD⟩ : ∃ D : ByteArray, s.extract 0 n = D := ⟨_, rfl⟩
  have hDl : s.data.toList.take n = D.data.toList := by
    rw [← hD]; simp [ByteArray.data_extract, Array.toList_extract, List.extract]
  have hDs : D.data.toList.length = D.size := by simp
  rw [hDl, hDs] at hx
  clear hll
  obtain ⟨b, hb⟩ : ∃ b, keyL7.contains D.data.toList = b := ⟨_, rfl⟩
  have H3 := fun W g hg => hid (kw_at W g hg D hb)
  rw [hb] at hx
  clear hb hDl hDs hn
  cases b
  · rw [if_neg (by decide)] at hx
    by_cases h16 : 16 < D.size
    · rw [if_pos h16] at hx
      subst hx
      go_enter Tryz.func68, Tryz.ntmps68
      go_wp2_with fail
      refine (H1 _).out.mono ?_
      rintro e w1 ⟨rfl, rfl⟩
      go_wp2_with fail
      refine (H2 _).out.mono ?_
      rintro e w2 ⟨rfl, rfl⟩
      go_wp2_with fail
      refine (H3 (w.alloc (.cells zTok 58)) (w.heap.size + 1) (by simp)).out.mono ?_
      rintro e w3 ⟨rfl, rfl⟩
      have k1 := k0.trans ((below_one (w.alloc (.cells zTok 58)) (.cells kwCells 9)).mono k0.size)
      have hz2 := res_keep hz (below_one _ (.cells kwCells 9)) (by simp)
      clear H1 H2 H3
      go_wp2_with (refine wpList_store_res rfl rfl rfl rfl hz2 infoTok rfl rfl ?_; intro w9 hz9 hb9)
      refine bodyPost_ret (by simp [results, Tryz.results68, go_sem, cell_res hz9]; rfl) rfl ?_
      exact ⟨rfl, k1.trans hb9⟩
    · rw [if_neg h16] at hx
      subst hx
      go_enter Tryz.func68, Tryz.ntmps68
      go_wp2_with fail
      refine (H1 _).out.mono ?_
      rintro e w1 ⟨rfl, rfl⟩
      go_wp2_with fail
      refine (H2 _).out.mono ?_
      rintro e w2 ⟨rfl, rfl⟩
      go_wp2_with fail
      refine (H3 (w.alloc (.cells zTok 58)) (w.heap.size + 1) (by simp)).out.mono ?_
      rintro e w3 ⟨rfl, rfl⟩
      have k1 := k0.trans ((below_one (w.alloc (.cells zTok 58)) (.cells kwCells 9)).mono k0.size)
      have hz2 := res_keep hz (below_one _ (.cells kwCells 9)) (by simp)
      clear H1 H2 H3
      go_wp2_with (refine wpList_store_res rfl rfl rfl rfl hz2 infoTok rfl rfl ?_; intro w9 hz9 hb9)
      refine bodyPost_ret (by simp [results, Tryz.results68, go_sem, cell_res hz9]; rfl) rfl ?_
      exact ⟨retT_txt (v := V0) (arr_back D), k1.trans hb9⟩
  · rw [if_pos rfl] at hx
    subst hx
    go_enter Tryz.func68, Tryz.ntmps68
    go_wp2_with fail
    refine (H1 _).out.mono ?_
    rintro e w1 ⟨rfl, rfl⟩
    go_wp2_with fail
    refine (H2 _).out.mono ?_
    rintro e w2 ⟨rfl, rfl⟩
    go_wp2_with fail
    refine (H3 (w.alloc (.cells zTok 58)) (w.heap.size + 1) (by simp)).out.mono ?_
    rintro e w3 ⟨rfl, rfl⟩
    have k1 := k0.trans ((below_one (w.alloc (.cells zTok 58)) (.cells kwCells 9)).mono k0.size)
    have hz2 := res_keep hz (below_one _ (.cells kwCells 9)) (by simp)
    clear H1 H2 H3
    go_wp2_with (refine wpList_store_res rfl rfl rfl rfl hz2 infoTok rfl rfl ?_; intro w9 hz9 hb9)
    refine bodyPost_ret (by simp [results, Tryz.results68, go_sem, cell_res hz9]; rfl) rfl ?_
    exact ⟨retT_txt (v := V0) (arr_back D), k1.trans hb9⟩
end

/-! ### SymIx -/
section
open Go.RowKit
abbrev symCells : Array Value := #[.string ⟨#[58, 45]⟩, .string ⟨#[33, 61]⟩, .string ⟨#[60, 61]⟩, .string ⟨#[62, 61]⟩, .string ⟨#[40]⟩, .string ⟨#[41]⟩, .string ⟨#[44]⟩, .string ⟨#[59]⟩, .string ⟨#[124]⟩, .string ⟨#[61]⟩, .string ⟨#[60]⟩, .string ⟨#[62]⟩]
theorem sym_ix0 (w : World) : (Instr.index 129 (.agg symCells) (.int .i64 0)).run Tryz.prog w = .ok (.string ⟨#[58, 45]⟩) w := by
  simp [Instr.index, run_underlying Tryz.underlying129, asIntOf, part, go_sem, Tryz.isAgg9, Tryz.sizeOf9]
theorem sym_ix1 (w : World) : (Instr.index 129 (.agg symCells) (.int .i64 1)).run Tryz.prog w = .ok (.string ⟨#[33, 61]⟩) w := by
  simp [Instr.index, run_underlying Tryz.underlying129, asIntOf, part, go_sem, Tryz.isAgg9, Tryz.sizeOf9]
theorem sym_ix2 (w : World) : (Instr.index 129 (.agg symCells) (.int .i64 2)).run Tryz.prog w = .ok (.string ⟨#[60, 61]⟩) w := by
  simp [Instr.index, run_underlying Tryz.underlying129, asIntOf, part, go_sem, Tryz.isAgg9, Tryz.sizeOf9]
theorem sym_ix3 (w : World) : (Instr.index 129 (.agg symCells) (.int .i64 3)).run Tryz.prog w = .ok (.string ⟨#[62, 61]⟩) w := by
  simp [Instr.index, run_underlying Tryz.underlying129, asIntOf, part, go_sem, Tryz.isAgg9, Tryz.sizeOf9]
theorem sym_ix4 (w : World) : (Instr.index 129 (.agg symCells) (.int .i64 4)).run Tryz.prog w = .ok (.string ⟨#[40]⟩) w := by
  simp [Instr.index, run_underlying Tryz.underlying129, asIntOf, part, go_sem, Tryz.isAgg9, Tryz.sizeOf9]
theorem sym_ix5 (w : World) : (Instr.index 129 (.agg symCells) (.int .i64 5)).run Tryz.prog w = .ok (.string ⟨#[41]⟩) w := by
  simp [Instr.index, run_underlying Tryz.underlying129, asIntOf, part, go_sem, Tryz.isAgg9, Tryz.sizeOf9]
theorem sym_ix6 (w : World) : (Instr.index 129 (.agg symCells) (.int .i64 6)).run Tryz.prog w = .ok (.string ⟨#[44]⟩) w := by
  simp [Instr.index, run_underlying Tryz.underlying129, asIntOf, part, go_sem, Tryz.isAgg9, Tryz.sizeOf9]
theorem sym_ix7 (w : World) : (Instr.index 129 (.agg symCells) (.int .i64 7)).run Tryz.prog w = .ok (.string ⟨#[59]⟩) w := by
  simp [Instr.index, run_underlying Tryz.underlying129, asIntOf, part, go_sem, Tryz.isAgg9, Tryz.sizeOf9]
theorem sym_ix8 (w : World) : (Instr.index 129 (.agg symCells) (.int .i64 8)).run Tryz.prog w = .ok (.string ⟨#[124]⟩) w := by
  simp [Instr.index, run_underlying Tryz.underlying129, asIntOf, part, go_sem, Tryz.isAgg9, Tryz.sizeOf9]
theorem sym_ix9 (w : World) : (Instr.index 129 (.agg symCells) (.int .i64 9)).run Tryz.prog w = .ok (.string ⟨#[61]⟩) w := by
  simp [Instr.index, run_underlying Tryz.underlying129, asIntOf, part, go_sem, Tryz.isAgg9, Tryz.sizeOf9]
theorem sym_ix10 (w : World) : (Instr.index 129 (.agg symCells) (.int .i64 10)).run Tryz.prog w = .ok (.string ⟨#[60]⟩) w := by
  simp [Instr.index, run_underlying Tryz.underlying129, asIntOf, part, go_sem, Tryz.isAgg9, Tryz.sizeOf9]
theorem sym_ix11 (w : World) : (Instr.index 129 (.agg symCells) (.int .i64 11)).run Tryz.prog w = .ok (.string ⟨#[62]⟩) w := by
  simp [Instr.index, run_underlying Tryz.underlying129, asIntOf, part, go_sem, Tryz.isAgg9, Tryz.sizeOf9]
end

/-! ### LwS -/
section
open Go.RowKit

/-- The symbols, as the package's variable holds them. -/
def symB : List ByteArray := [⟨#[58, 45]⟩, ⟨#[33, 61]⟩, ⟨#[60, 61]⟩, ⟨#[62, 61]⟩, ⟨#[40]⟩, ⟨#[41]⟩, ⟨#[44]⟩, ⟨#[59]⟩, ⟨#[124]⟩, ⟨#[61]⟩, ⟨#[60]⟩, ⟨#[62]⟩]
theorem symB_len : symB.length = 12 := rfl
theorem sym_lists : symB.map (fun b => b.data.toList) = symL := rfl
theorem sym_get {k : Nat} (h : k < 12) (h' : k < symL.length) : symL[k]'h' = (symB[k]'h).data.toList := by
  have : ∀ k : Fin 12, symL[k.val]'(k.isLt) = (symB[k.val]'(k.isLt)).data.toList := by decide
  exact this ⟨k, h⟩
/-- The variable lexer.symbols holds them. -/
def SymAt (w : World) : Prop := ∀ j (h : j < 12), w.cell? ⟨0, j, none⟩ = some (.string (symB[j]'h))
theorem SymAt.below {w w' : World} (h : SymAt w) (hb : Below w.heap.size w w') : SymAt w' := fun j hj => cell_keep hb (h j hj)
/-- What chapter 18 asks of the world. -/
structure EnvL (w : World) : Prop where
  env : Env w
  sym : SymAt w
theorem EnvL.below {w w' : World} (h : EnvL w) (hb : Below w.heap.size w w') : EnvL w' := ⟨h.env.below hb, h.sym.below hb⟩

theorem num_ways (s : ByteArray) (h0 : 0 < s.size) {b : Bool} (hb : numB s.data.toList = b) :
    (b = true ∧ digB s[0] = true) ∨ (∃ h1 : 1 < s.size, b = true ∧ digB s[0] = false ∧ s[0].toNat = 45 ∧ digB s[1] = true) ∨ (b = false ∧ digB s[0] = false ∧ s[0].toNat ≠ 45) ∨ (b = false ∧ digB s[0] = false ∧ s[0].toNat = 45 ∧ s.size ≤ 1) ∨ (∃ h1 : 1 < s.size, b = false ∧ digB s[0] = false ∧ s[0].toNat = 45 ∧ digB s[1] = false) := by
  subst hb
  unfold numB
  have hl : s.data.toList.length = s.size := by simp
  rw [getD_of h0, hl]
  cases hd : digB s[0]
  · by_cases h45 : s[0].toNat = 45
    · have e : (s[0] == 45) = true := by have : s[0] = 45 := UInt8.toNat.inj h45; rw [this]; rfl
      by_cases h1 : 1 < s.size
      · rw [getD_of h1]
        cases hd1 : digB s[1]
        · right; right; right; right; exact ⟨h1, by simp, rfl, h45, hd1⟩
        · right; left; exact ⟨h1, by simp [e, h1], rfl, h45, hd1⟩
      · right; right; right; left; exact ⟨by simp [h1], rfl, h45, by omega⟩
    · have e : (s[0] == 45) = false := by simpa using fun e => h45 (congrArg UInt8.toNat e)
      right; right; left; exact ⟨by simp [e], rfl, h45⟩
  · left; exact ⟨by simp, rfl⟩

theorem symTok_at {r : List UInt8} {a : Int} : symTok r a = match symL.find? (fun y => y.isPrefixOf r) with
  | some y => (⟨4, y, V0, a⟩, 0)
  | none => (T0, 15) := rfl
theorem find_found {r : List UInt8} {k : Nat} (hk : k < 12) (hn : ∀ j (h : j < k), (symB[j]'(by rw [symB_len]; omega)).data.toList.isPrefixOf r = false) (hy : (symB[k]'hk).data.toList.isPrefixOf r = true) (a : Int) :
    symTok r a = (⟨4, (symB[k]'hk).data.toList, V0, a⟩, 0) := by
  have h : symL.find? (fun y => y.isPrefixOf r) = some (symB[k]'hk).data.toList := by
    rw [List.find?_eq_some_iff_getElem]
    refine ⟨hy, k, hk, sym_get hk _, fun j hj => ?_⟩
    have hj' : j < 12 := by omega
    have e : (symL[j]'(show j < symL.length from hj')).isPrefixOf r = false := by rw [sym_get hj' _]; exact hn j hj
    simpa using e
  rw [symTok_at, h]
theorem find_none {r : List UInt8} (hn : ∀ j (h : j < 12), (symB[j]'h).data.toList.isPrefixOf r = false) (a : Int) : symTok r a = (T0, 15) := by
  have h : symL.find? (fun y => y.isPrefixOf r) = none := by
    rw [List.find?_eq_none]
    intro y hy
    obtain ⟨j, hj, rfl⟩ := List.getElem_of_mem hy
    have hj' : j < 12 := hj
    rw [sym_get hj' _, hn j hj']; decide
  rw [symTok_at, h]
theorem hasP (s p : ByteArray) (w : World) {b : Bool} (h : p.data.toList.isPrefixOf s.data.toList = b) :
    Calls Tryz.prog 73 #[.string s, .string p] w fun e w' => e = .returned (.bool b) ∧ w = w' := by
  refine (Tryz.strings_HasPrefix s p w).mono fun e w' ⟨h1, h2⟩ => ⟨?_, h2.symm⟩
  rw [h1]
  exact ret_b h
theorem prefix_lib (r y : List UInt8) : Lib.hasPrefix r y = y.isPrefixOf r := rfl

end
end Go.Proofs.YtnbacdmlaedppaaGreatDoor
