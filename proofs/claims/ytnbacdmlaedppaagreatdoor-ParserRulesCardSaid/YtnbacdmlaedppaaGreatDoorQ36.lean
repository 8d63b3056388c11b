/-
  PARTS of a claim, merged by segs.py: Lw3, Lw4.
-/
import Derived.Test.YtnbacdmlaedppaaGreatDoorQ33
import Derived.Test.YtnbacdmlaedppaaGreatDoorQ34
import Derived.Test.YtnbacdmlaedppaaGreatDoorQ35
import Derived.Test.YtnbacdmlaedppaaGreatDoorQ07
namespace Go.Proofs.YtnbacdmlaedppaaGreatDoor

/-! ### Lw3 -/
section
open Go.RowKit

set_option maxRecDepth 100000 in
set_option maxHeartbeats 1000000 in
theorem lex_next (s : ByteArray) (a : Nat) (w : World) (hE : EnvL w) (ha : a < s.size) (hs : s.size ≤ 100000) {x : Tok × Int} (hx : nextL (s.data.toList.drop a) a = x) :
    Calls Tryz.prog 38 #[.string s, .int .i64 a] w (RetT w x) := by
  have k0 := below_one w (.cells zTok 58)
  have hz := heap_alloc_new w (.cells zTok 58)
  obtain ⟨D, hD⟩ : ∃ D : ByteArray, s.extract a s.size = D := ⟨_, rfl⟩
  have hDl : s.data.toList.drop a = D.data.toList := by rw [← hD, drop_extract]
  have hDs : D.size = s.size - a := by rw [← hD]; simp
  have hp : 0 < D.size := by omega
  have hDm : D.size ≤ 100000 := by omega
  rw [hDl] at hx
  unfold nextL at hx
  rw [getD_of hp] at hx
  clear hDl hDs
  cases hl : letB D[0]
  · rw [hl, if_neg (by decide)] at hx
    have H0 := fun W => hid (lex_letter D[0] W hl)
    cases hn : numB D.data.toList
    · rw [hn, if_neg (by decide)] at hx
      have hways : (digB D[0] = false ∧ ((D[0].toNat : Int) == 45) = false) ∨ (digB D[0] = false ∧ ((D[0].toNat : Int) == 45) = true ∧ D.size ≤ 1) ∨ (∃ h1 : 1 < D.size, digB D[0] = false ∧ ((D[0].toNat : Int) == 45) = true ∧ digB D[1] = false) := by
        rcases num_ways D hp hn with ⟨h, _⟩ | ⟨_, h, _⟩ | ⟨_, d1, d2⟩ | ⟨_, d1, d2, d3⟩ | ⟨h1, _, d1, d2, d3⟩
        · cases h
        · cases h
        · left; exact ⟨d1, by simp; omega⟩
        · right; left; exact ⟨d1, by rw [d2]; rfl, d3⟩
        · right; right; exact ⟨h1, d1, by rw [d2]; rfl, d3⟩
      by_cases h34 : D[0] = 34
      · rw [if_pos h34] at hx
        have b34 : ((D[0].toNat : Int) == 34) = true := by rw [h34]; rfl
        cases hsl : strLen D.data.toList with
        | none =>
          rw [hsl] at hx
          subst hx
          have H2 := fun W => hid (lex_stringLength D W hp hDm (n := 0) (b := false) (by rw [hsl]; rfl))
          clear hE hl hn hsl h34
          rcases hways with ⟨d1, d2⟩ | ⟨d1, d2, d3⟩ | ⟨h1, d1, d2, d3⟩
          · have H1 := fun W => hid (lex_digit D[0] W d1)
            clear d1
            go_enter Tryz.func38, Tryz.ntmps38
            go_wp2_with fail
            refine ((H0 _).out).mono ?_
            rintro e w1 ⟨rfl, rfl⟩
            go_wp2_with fail
            refine ((H1 _).out).mono ?_
            rintro e w1 ⟨rfl, rfl⟩
            go_wp2_with fail
            refine ((H2 _).out).mono ?_
            rintro e w1 ⟨rfl, rfl⟩
            go_wp2_with (refine wpList_store_res rfl rfl rfl rfl hz infoTok rfl rfl ?_; intro w9 hz9 hb9)
            refine bodyPost_ret (by simp [results, Tryz.results38, go_sem, cell_res hz9]; rfl) rfl ?_
            exact ⟨rfl, k0.trans hb9⟩
          · have H1 := fun W => hid (lex_digit D[0] W d1)
            clear d1
            go_enter Tryz.func38, Tryz.ntmps38
            go_wp2_with fail
            refine ((H0 _).out).mono ?_
            rintro e w1 ⟨rfl, rfl⟩
            go_wp2_with fail
            refine ((H1 _).out).mono ?_
            rintro e w1 ⟨rfl, rfl⟩
            go_wp2_with fail
            refine ((H2 _).out).mono ?_
            rintro e w1 ⟨rfl, rfl⟩
            go_wp2_with (refine wpList_store_res rfl rfl rfl rfl hz infoTok rfl rfl ?_; intro w9 hz9 hb9)
            refine bodyPost_ret (by simp [results, Tryz.results38, go_sem, cell_res hz9]; rfl) rfl ?_
            exact ⟨rfl, k0.trans hb9⟩
          · have H1 := fun W => hid (lex_digit D[0] W d1)
            have H4 := fun W => hid (lex_digit D[1] W d3)
            clear d1 d3
            go_enter Tryz.func38, Tryz.ntmps38
            go_wp2_with fail
            refine ((H0 _).out).mono ?_
            rintro e w1 ⟨rfl, rfl⟩
            go_wp2_with fail
            refine ((H1 _).out).mono ?_
            rintro e w1 ⟨rfl, rfl⟩
            go_wp2_with fail
            refine ((H4 _).out).mono ?_
            rintro e w1 ⟨rfl, rfl⟩
            go_wp2_with fail
            refine ((H2 _).out).mono ?_
            rintro e w1 ⟨rfl, rfl⟩
            go_wp2_with (refine wpList_store_res rfl rfl rfl rfl hz infoTok rfl rfl ?_; intro w9 hz9 hb9)
            refine bodyPost_ret (by simp [results, Tryz.results38, go_sem, cell_res hz9]; rfl) rfl ?_
            exact ⟨rfl, k0.trans hb9⟩
        | some m =>
          rw [hsl] at hx
          have hle := (strLen_le hsl).2
          have hll : D.data.toList.length = D.size := by simp
          rw [hll] at hle
          have H2 := fun W => hid (lex_stringLength D W hp hDm (n := m) (b := true) (by rw [hsl]; rfl))
          obtain ⟨B, hB⟩ : ∃ B : ByteArray, D.extract 0 m = B := ⟨_, rfl⟩
          have hBl : D.data.toList.take m = B.data.toList := by
            rw [← hB]; simp [ByteArray.data_extract, Array.toList_extract, List.extract]
          have hBs : B.size ≤ 100000 := by rw [← hB]; simp; omega
          simp only at hx
          rw [hBl] at hx
          have H3 := fun W (h : Below w.heap.size w W) => hid (lex_literal 3 B a W hBs (hE.below h).env.err hx)
          clear hx hE hl hn hsl h34 hBl hll
          rcases hways with ⟨d1, d2⟩ | ⟨d1, d2, d3⟩ | ⟨h1, d1, d2, d3⟩
          · have H1 := fun W => hid (lex_digit D[0] W d1)
            clear d1
            go_enter Tryz.func38, Tryz.ntmps38
            go_wp2_with fail
            refine ((H0 _).out).mono ?_
            rintro e w1 ⟨rfl, rfl⟩
            go_wp2_with fail
            refine ((H1 _).out).mono ?_
            rintro e w1 ⟨rfl, rfl⟩
            go_wp2_with fail
            refine ((H2 _).out).mono ?_
            rintro e w1 ⟨rfl, rfl⟩
            go_wp2_with fail
            refine ((H3 _ k0).out).mono ?_
            rintro e w1 ⟨rfl, b1⟩
            have hz1 := res_keep hz b1 (by simp)
            have k1 := k0.trans (b1.mono k0.size)
            go_wp2_with (refine wpList_store_res rfl rfl rfl rfl hz1 infoTok rfl rfl ?_; intro w9 hz9 hb9)
            refine bodyPost_ret (by simp [results, Tryz.results38, go_sem, cell_res hz9]; rfl) rfl ?_
            exact ⟨rfl, k1.trans hb9⟩
          · have H1 := fun W => hid (lex_digit D[0] W d1)
            clear d1
            go_enter Tryz.func38, Tryz.ntmps38
            go_wp2_with fail
            refine ((H0 _).out).mono ?_
            rintro e w1 ⟨rfl, rfl⟩
            go_wp2_with fail
            refine ((H1 _).out).mono ?_
            rintro e w1 ⟨rfl, rfl⟩
            go_wp2_with fail
            refine ((H2 _).out).mono ?_
            rintro e w1 ⟨rfl, rfl⟩
            go_wp2_with fail
            refine ((H3 _ k0).out).mono ?_
            rintro e w1 ⟨rfl, b1⟩
            have hz1 := res_keep hz b1 (by simp)
            have k1 := k0.trans (b1.mono k0.size)
            go_wp2_with (refine wpList_store_res rfl rfl rfl rfl hz1 infoTok rfl rfl ?_; intro w9 hz9 hb9)
            refine bodyPost_ret (by simp [results, Tryz.results38, go_sem, cell_res hz9]; rfl) rfl ?_
            exact ⟨rfl, k1.trans hb9⟩
          · have H1 := fun W => hid (lex_digit D[0] W d1)
            have H4 := fun W => hid (lex_digit D[1] W d3)
            clear d1 d3
            go_enter Tryz.func38, Tryz.ntmps38
            go_wp2_with fail
            refine ((H0 _).out).mono ?_
            rintro e w1 ⟨rfl, rfl⟩
            go_wp2_with fail
            refine ((H1 _).out).mono ?_
            rintro e w1 ⟨rfl, rfl⟩
            go_wp2_with fail
            refine ((H4 _).out).mono ?_
            rintro e w1 ⟨rfl, rfl⟩
            go_wp2_with fail
            refine ((H2 _).out).mono ?_
            rintro e w1 ⟨rfl, rfl⟩
            go_wp2_with fail
            refine ((H3 _ k0).out).mono ?_
            rintro e w1 ⟨rfl, b1⟩
            have hz1 := res_keep hz b1 (by simp)
            have k1 := k0.trans (b1.mono k0.size)
            go_wp2_with (refine wpList_store_res rfl rfl rfl rfl hz1 infoTok rfl rfl ?_; intro w9 hz9 hb9)
            refine bodyPost_ret (by simp [results, Tryz.results38, go_sem, cell_res hz9]; rfl) rfl ?_
            exact ⟨rfl, k1.trans hb9⟩
      · rw [if_neg h34] at hx
        have b34 : ((D[0].toNat : Int) == 34) = false := by
          have : D[0].toNat ≠ 34 := fun e => h34 (UInt8.toNat.inj e)
          simp; omega
        rcases hways with ⟨d1, d2⟩ | ⟨d1, d2, d3⟩ | ⟨h1, d1, d2, d3⟩
        · exact lex_next_sym1 s a w hE ha hs D hD hp hDm hl d1 d2 b34 hx
        · exact lex_next_sym2 s a w hE ha hs D hD hp hDm hl d1 d2 d3 b34 hx
        · exact lex_next_sym3 s a w hE ha hs D hD hp hDm hl h1 d1 d2 d3 b34 hx
    · rw [hn, if_pos rfl] at hx
      obtain ⟨m, hm⟩ : ∃ m, wordLen (D.data.toList.drop 1) = m := ⟨_, rfl⟩
      have hmle : m + 1 ≤ D.size := by
        have := wordLen_le (D.data.toList.drop 1)
        rw [hm, List.length_drop] at this
        have hll : D.data.toList.length = D.size := by simp
        omega
      rw [hm] at hx
      have H2 := fun W => hid (lex_wordLength (D.extract 1 D.size) W (by simp; omega) (x := m) (by rw [drop_extract]; exact hm))
      obtain ⟨B, hB⟩ : ∃ B : ByteArray, D.extract 0 (1 + m) = B := ⟨_, rfl⟩
      have hBl : D.data.toList.take (1 + m) = B.data.toList := by
        rw [← hB]; simp [ByteArray.data_extract, Array.toList_extract, List.extract]
      have hBs : B.size ≤ 100000 := by rw [← hB]; simp; omega
      rw [hBl] at hx
      have H3 := fun W (h : Below w.heap.size w W) => hid (lex_literal 2 B a W hBs (hE.below h).env.err hx)
      rcases num_ways D hp hn with ⟨_, d1⟩ | ⟨h1, _, d1, d2, d3⟩ | ⟨h, _⟩ | ⟨h, _⟩ | ⟨_, h, _⟩
      · have H1 := fun W => hid (lex_digit D[0] W d1)
        clear hx hE hl hn hm hBl d1
        go_enter Tryz.func38, Tryz.ntmps38
        go_wp2_with fail
        refine ((H0 _).out).mono ?_
        rintro e w1 ⟨rfl, rfl⟩
        go_wp2_with fail
        refine ((H1 _).out).mono ?_
        rintro e w1 ⟨rfl, rfl⟩
        go_wp2_with fail
        refine ((H2 _).out).mono ?_
        rintro e w1 ⟨rfl, rfl⟩
        go_wp2_with fail
        refine ((H3 _ k0).out).mono ?_
        rintro e w1 ⟨rfl, b1⟩
        have hz1 := res_keep hz b1 (by simp)
        have k1 := k0.trans (b1.mono k0.size)
        go_wp2_with (refine wpList_store_res rfl rfl rfl rfl hz1 infoTok rfl rfl ?_; intro w9 hz9 hb9)
        refine bodyPost_ret (by simp [results, Tryz.results38, go_sem, cell_res hz9]; rfl) rfl ?_
        exact ⟨rfl, k1.trans hb9⟩
      · have H1 := fun W => hid (lex_digit D[0] W d1)
        have H4 := fun W => hid (lex_digit D[1] W d3)
        clear hx hE hl hn hm hBl d1 d3
        have b45 : ((D[0].toNat : Int) == 45) = true := by rw [d2]; rfl
        clear d2
        go_enter Tryz.func38, Tryz.ntmps38
        go_wp2_with fail
        refine ((H0 _).out).mono ?_
        rintro e w1 ⟨rfl, rfl⟩
        go_wp2_with fail
        refine ((H1 _).out).mono ?_
        rintro e w1 ⟨rfl, rfl⟩
        go_wp2_with fail
        refine ((H4 _).out).mono ?_
        rintro e w1 ⟨rfl, rfl⟩
        go_wp2_with fail
        refine ((H2 _).out).mono ?_
        rintro e w1 ⟨rfl, rfl⟩
        go_wp2_with fail
        refine ((H3 _ k0).out).mono ?_
        rintro e w1 ⟨rfl, b1⟩
        have hz1 := res_keep hz b1 (by simp)
        have k1 := k0.trans (b1.mono k0.size)
        go_wp2_with (refine wpList_store_res rfl rfl rfl rfl hz1 infoTok rfl rfl ?_; intro w9 hz9 hb9)
        refine bodyPost_ret (by simp [results, Tryz.results38, go_sem, cell_res hz9]; rfl) rfl ?_
        exact ⟨rfl, k1.trans hb9⟩
      · cases h
      · cases h
      · cases h
  · rw [hl, if_pos rfl] at hx
    have H0 := fun W => hid (lex_letter D[0] W hl)
    have H1 := fun W => hid (lex_word D a W hDm hx)
    clear hx hE hl
    go_enter Tryz.func38, Tryz.ntmps38
    go_wp2_with fail
    refine ((H0 _).out).mono ?_
    rintro e w1 ⟨rfl, rfl⟩
    go_wp2_with fail
    refine ((H1 _).out).mono ?_
    rintro e w1 ⟨rfl, b1⟩
    have hz1 := res_keep hz b1 (by simp)
    have k1 := k0.trans (b1.mono k0.size)
    go_wp2_with (refine wpList_store_res rfl rfl rfl rfl hz1 infoTok rfl rfl ?_; intro w9 hz9 hb9)
    refine bodyPost_ret (by simp [results, Tryz.results38, go_sem, cell_res hz9]; rfl) rfl ?_
    exact ⟨rfl, k1.trans hb9⟩
end

/-! ### Lw4 -/
section
open Go.RowKit

theorem scan1_skip : ∀ (l : List UInt8) (a : Int), scan1 l a = scan1 (l.drop (skipN l)) (a + skipN l)
  | [], a => by simp [skipN]
  | c :: r, a => by
    by_cases h : whtB c = true
    · have e : skipN (c :: r) = skipN r + 1 := by unfold skipN; rw [List.takeWhile_cons, if_pos h]; rfl
      rw [scan1_white h, scan1_skip r (a + 1), e, List.drop_succ_cons]
      congr 1; omega
    · have e : skipN (c :: r) = 0 := by unfold skipN; rw [List.takeWhile_cons, if_neg h]; rfl
      rw [e]; simp
theorem skip_head : ∀ (l : List UInt8), l.drop (skipN l) = [] ∨ whtB ((l.drop (skipN l)).getD 0 0) = false
  | [] => .inl (by simp)
  | c :: r => by
    by_cases h : whtB c = true
    · have e : skipN (c :: r) = skipN r + 1 := by unfold skipN; rw [List.takeWhile_cons, if_pos h]; rfl
      rw [e, List.drop_succ_cons]
      exact skip_head r
    · have e : skipN (c :: r) = 0 := by unfold skipN; rw [List.takeWhile_cons, if_neg h]; rfl
      right; rw [e]; simpa using h
theorem skipN_le (l : List UInt8) : skipN l ≤ l.length := (List.takeWhile_prefix _).length_le

/-- Tokens so far, and what is still to come. -/
def glue (ts : List Tok) (y : List Tok × Int × Int) : List Tok × Int × Int := if y.2.2 = 0 then (ts ++ y.1, y.2.1, 0) else y
theorem glue_nil (y : List Tok × Int × Int) : glue [] y = y := by
  unfold glue
  split
  · rename_i h; exact Prod.ext rfl (Prod.ext rfl h.symm)
  · rfl
theorem glue_end (ts : List Tok) (a : Int) : glue ts (scan1 [] a) = (ts ++ [⟨0, [], V0, a⟩], 0, 0) := by rw [scan1_nil]; rfl
theorem glue_bad {ts : List Tok} {r : List UInt8} {a : Int} {t : Tok} {e : Int} (hr : r ≠ []) (hw : whtB (r.getD 0 0) = false) (h : nextL r a = (t, e)) (he : e ≠ 0) : glue ts (scan1 r a) = ([], a, e) := by
  rw [scan1_bad hr hw (by rw [h]; exact he), h]
  unfold glue; rw [if_neg he]
theorem glue_tok {ts : List Tok} {r : List UInt8} {a : Int} {t : Tok} (hr : r ≠ []) (hw : whtB (r.getD 0 0) = false) (h : nextL r a = (t, 0)) : glue ts (scan1 r a) = glue (ts ++ [t]) (scan1 (r.drop t.t.length) (a + t.t.length)) := by
  rw [scan1_tok hr hw h]
  unfold glue
  by_cases h0 : (scan1 (r.drop t.t.length) (a + t.t.length)).2.2 = 0
  · rw [if_pos h0]; simp only [if_true]; rw [if_pos h0]
    obtain ⟨_, hq⟩ := scan_ok (l := r.drop t.t.length) (a := a + t.t.length) (ts := (scan1 (r.drop t.t.length) (a + t.t.length)).1) (q := (scan1 (r.drop t.t.length) (a + t.t.length)).2.1) (Prod.ext rfl (Prod.ext rfl h0))
    rw [hq]; simp
  · rw [if_neg h0, if_neg h0, if_neg h0]

theorem infoT : (Tryz.prog.info? 58).map (fun i => (i.zero, i.size, i.bytes)) = some (some (.agg zTok), 6, 64) := by kernel_rfl
theorem flatT_snoc {w : World} {B : Nat} {v : Value} {l : List Tok} {t : Tok} (h : w.ownsRow B 58 6 v (l.length + 1) (flatT l ++ [.int .i64 t.k, .string ⟨t.t.toArray⟩, .int .i64 t.v.k, .int .i64 t.v.n, .string t.v.s, .int .i64 t.a])) : w.ownsRow B 58 6 v (l ++ [t]).length (flatT (l ++ [t])) := by
  rw [List.length_append, flatT_append]; exact h

set_option maxRecDepth 100000 in
set_option maxHeartbeats 2000000 in
theorem lex_scan (s : ByteArray) (w : World) (hE : EnvL w) (hs : s.size ≤ 100000) {x : List Tok × Int × Int} (hx : scanL s.data.toList = x) :
    Calls Tryz.prog 17 #[.string s] w (RetS w x) := by
  obtain ⟨i0, hi, hz0, hz1, hz2⟩ := info_parts infoT
  have hll : s.data.toList.length = s.size := by simp
  unfold scanL at hx
  rw [hll] at hx
  by_cases hbig : 65536 < s.size
  · rw [if_pos hbig] at hx
    subst hx
    clear hE hll
    go_enter Tryz.func17, Tryz.ntmps17
    go_wp2
    go_ret3
    exact ⟨none, 0, rfl, fun h => absurd h (by simp), by simp, Below.refl _ _⟩
  · rw [if_neg hbig] at hx
    have HX : Hid (glue [] (scan1 (s.data.toList.drop 0) ((0 : Nat) : Int)) = x) := hid (by rw [glue_nil]; exact hx)
    clear hx hll
    go_enter Tryz.func17, Tryz.ntmps17
    go_wp2
    go_loopw [5, 6] (fun v i wr => ∃ (a : Nat) (ts : List Tok), a ≤ s.size ∧ i = .int .i64 a ∧ wr.ownsRow w.heap.size 58 6 v ts.length (flatT ts) ∧ ts.length ≤ a ∧ Hid (glue ts (scan1 (s.data.toList.drop a) (a : Int)) = x) ∧ Below w.heap.size w wr) (fun _ i _ => s.size - (intOf i).toNat)
    case atStart => exact ⟨0, [], by omega, rfl, World.ownsRow_nil _ _ _ _, by simp, HX, Below.refl _ _⟩
    case round =>
      obtain ⟨a, ts, ha, rfl, hown, hlen, HK, hbel⟩ := hrel
      clear HX
      obtain ⟨b, hb⟩ : ∃ b, a + skipN (s.data.toList.drop a) = b := ⟨_, rfl⟩
      have H1 := fun W => hid (lex_skip s a W ha hs hb)
      have hsk := scan1_skip (s.data.toList.drop a) (a : Int)
      have hhd := skip_head (s.data.toList.drop a)
      have hsl := skipN_le (s.data.toList.drop a)
      have hll : s.data.toList.length = s.size := by simp
      rw [List.length_drop, hll] at hsl
      rw [List.drop_drop, hb] at hsk hhd
      have e1 : (a : Int) + (skipN (s.data.toList.drop a) : Int) = (b : Int) := by omega
      rw [e1] at hsk
      rw [hsk] at HK
      have hab : a ≤ b := by omega
      have hbs : b ≤ s.size := by omega
      clear hsk hb hsl hll e1
      by_cases hend : b = s.size
      · subst hend
        have e2 : s.data.toList.drop s.size = [] := List.drop_eq_nil_of_le (by simp)
        rw [e2, glue_end] at HK
        obtain rfl := HK.out
        clear HK hhd e2 hE
        go_wp2_with fail
        refine (H1 _).out.mono ?_
        rintro e w1 ⟨rfl, rfl⟩
        clear H1
        go_wp2_with (at_builtin; refine wpList_append_new Tryz.underlying49 hi hz0 hz1 hz2 rfl (by decide) (by decide) rfl rfl rfl hown rfl rfl rfl (by omega) hbel.size ?_; intro v2 w2 hown2 hg2; obtain ⟨A2, c2, rfl, hT2, hc2⟩ := own_toks (flatT_snoc (t := ⟨0, [], V0, s.size⟩) hown2))
        go_ret3
        exact ⟨A2, c2, by simp, hT2, hc2, hbel.trans (grown_below hown hg2 hbel.size)⟩
      · have hlt : b < s.size := by omega
        have bne : ((b : Int) == (s.size : Int)) = false := by simp; omega
        have hr : s.data.toList.drop b ≠ [] := by
          intro e
          have := congrArg List.length e
          simp at this; omega
        have hw := hhd.resolve_left hr
        obtain ⟨⟨t, q⟩, hn⟩ : ∃ p, nextL (s.data.toList.drop b) b = p := ⟨_, rfl⟩
        have H2 := fun W (h : Below w.heap.size w W) => hid (lex_next s b W (hE.below h) hlt hs hn)
        by_cases hq : q = 0
        · subst hq
          rw [glue_tok hr hw hn, List.drop_drop] at HK
          have hpre := (nextL_ok hr hn).1
          have hne := (nextL_ok hr hn).2.1
          have hpl := hpre.length_le
          have hpos := List.length_pos_iff.2 hne
          have hll : s.data.toList.length = s.size := by simp
          rw [List.length_drop, hll] at hpl
          have HK2 : Hid (glue (ts ++ [t]) (scan1 (s.data.toList.drop (b + t.t.length)) ((b + t.t.length : Nat) : Int)) = x) := HK
          clear HK hr hw hn hhd hE hll hpre hne hend
          go_wp2_with fail
          refine (H1 _).out.mono ?_
          rintro e w1 ⟨rfl, rfl⟩
          clear H1
          go_wp2_with fail
          refine (H2 _ hbel).out.mono ?_
          rintro e w1 ⟨rfl, b1⟩
          have hbel1 := hbel.trans (b1.mono hbel.size)
          have hown1 := own_below hown b1
          clear H2 b1 hown
          have hbelA := hbel1.trans ((below_one w1 (.cells #[.int .i64 t.k, .string ⟨t.t.toArray⟩, .int .i64 t.v.k, .int .i64 t.v.n, .string t.v.s, .int .i64 t.a] 58)).mono hbel1.size)
          have hownA := own_below hown1 (below_one w1 (.cells #[.int .i64 t.k, .string ⟨t.t.toArray⟩, .int .i64 t.v.k, .int .i64 t.v.n, .string t.v.s, .int .i64 t.a] 58))
          go_wp2_with (at_builtin; refine wpList_append_new2 Tryz.underlying49 hi hz0 hz1 hz2 rfl (by decide) (by decide) rfl rfl rfl hownA rfl (by simp) rfl rfl (by omega) hbelA.size ?_; intro v2 w2 hown2 hg2; have hzt := (hg2.block w1.heap.size (by simp) (fun e => by have := (hown1.lt _ e.symm).2; omega)).trans (heap_alloc_new w1 _); have c1 := cell_res hzt 1)
          go_roundw
          case rel => exact ⟨b + t.t.length, ts ++ [t], by omega, by go_num, flatT_snoc hown2, by simp; omega, HK2, hbelA.trans (grown_below hownA hg2 hbelA.size)⟩
          case measure => simp [intOf]; omega
        · rw [glue_bad hr hw hn hq] at HK
          obtain rfl := HK.out
          have bq : (q != 0) = true := by simpa using hq
          clear HK hr hw hn hhd hE hq hend
          go_wp2_with fail
          refine (H1 _).out.mono ?_
          rintro e w1 ⟨rfl, rfl⟩
          clear H1
          go_wp2_with fail
          refine (H2 _ hbel).out.mono ?_
          rintro e w1 ⟨rfl, b1⟩
          have hbel1 := hbel.trans (b1.mono hbel.size)
          have hbelA := hbel1.trans ((below_one w1 (.cells #[.int .i64 t.k, .string ⟨t.t.toArray⟩, .int .i64 t.v.k, .int .i64 t.v.n, .string t.v.s, .int .i64 t.a] 58)).mono hbel1.size)
          clear H2 b1 hown
          go_wp2
          go_ret3
          exact ⟨none, 0, rfl, fun h => absurd h (by simp), by simp, hbelA⟩
end
end Go.Proofs.YtnbacdmlaedppaaGreatDoor
