/-
  PARTS of a claim, merged by segs.py: Lw3, Lw4, PgZ.
-/
import Derived.Test.YtjhnopnppimnhaaGreatDoorZ29
import Derived.Test.YtjhnopnppimnhaaGreatDoorZ30
import Derived.Test.YtjhnopnppimnhaaGreatDoorZ10
import Derived.Test.YtjhnopnppimnhaaGreatDoorZ17
import Derived.Test.YtjhnopnppimnhaaGreatDoorZ28
import Derived.Test.YtjhnopnppimnhaaGreatDoorZ13
namespace Go.Proofs.YtjhnopnppimnhaaGreatDoor

/-! ### Lw3 -/
section
open Go.RowKit

set_option maxRecDepth 100000 in
set_option maxHeartbeats 1000000 in
theorem lex_next (s : ByteArray) (a : Nat) (w : World) (hE : EnvL w) (ha : a < s.size) (hs : s.size ≤ 100000) {x : Tok × Int} (hx : nextL (s.data.toList.drop a) a = x) :
    Calls Tryz.prog 81 #[.string s, .int .i64 a] w (RetT w x) := by
  have k0 := below_one w (.cells zTok 117)
  have hz := heap_alloc_new w (.cells zTok 117)
  obtain ⟨D, hD⟩ : ∃ D : ByteArray, s.extract a s.size = D := ⟨_, rfl⟩
  have hDl : s.data.toList.drop a = D.data.toList := by rw [← hD, drop_extract]
  have hDs : D.size = s.size - a := by rw [← hD]; simp
  have hp : 0 < D.size := by omega
  have hDm : D.size ≤ 100000 := by omega
  rw [hDl] at hx
  unfold nextL at hx
  rw [getD_of hp] at hx
  clear hDl hDs
  cases hl : letB D[0]
  · rw [hl, if_neg (by decide)] at hx
    have H0 := fun W => hid (lex_letter D[0] W hl)
    cases hn : numB D.data.toList
    · rw [hn, if_neg (by decide)] at hx
      have hways : (digB D[0] = false ∧ ((D[0].toNat : Int) == 45) = false) ∨ (digB D[0] = false ∧ ((D[0].toNat : Int) == 45) = true ∧ D.size ≤ 1) ∨ (∃ h1 : 1 < D.size, digB D[0] = false ∧ ((D[0].toNat : Int) == 45) = true ∧ digB D[1] = false) := by
        rcases num_ways D hp hn with ⟨h, _⟩ | ⟨_, h, _⟩ | ⟨_, d1, d2⟩ | ⟨_, d1, d2, d3⟩ | ⟨h1, _, d1, d2, d3⟩
        · cases h
        · cases h
        · left; exact ⟨d1, by simp; omega⟩
        · right; left; exact ⟨d1, by rw [d2]; rfl, d3⟩
        · right; right; exact ⟨h1, d1, by rw [d2]; rfl, d3⟩
      by_cases h34 : D[0] = 34
      · rw [if_pos h34] at hx
        have b34 : ((D[0].toNat : Int) == 34) = true := by rw [h34]; rfl
        cases hsl : strLen D.data.toList with
        | none =>
          rw [hsl] at hx
          subst hx
          have H2 := fun W => hid (lex_stringLength D W hp hDm (n := 0) (b := false) (by rw [hsl]; rfl))
          clear hE hl hn hsl h34
          rcases hways with ⟨d1, d2⟩ | ⟨d1, d2, d3⟩ | ⟨h1, d1, d2, d3⟩
          · have H1 := fun W => hid (lex_digit D[0] W d1)
            clear d1
            go_enter Tryz.func81, Tryz.ntmps81
            go_wp2_with fail
            refine ((H0 _).out).mono ?_
            rintro e w1 ⟨rfl, rfl⟩
            go_wp2_with fail
            refine ((H1 _).out).mono ?_
            rintro e w1 ⟨rfl, rfl⟩
            go_wp2_with fail
            refine ((H2 _).out).mono ?_
            rintro e w1 ⟨rfl, rfl⟩
            go_wp2_with (refine wpList_store_res rfl rfl rfl rfl hz infoTok rfl rfl ?_; intro w9 hz9 hb9)
            refine bodyPost_ret (by simp [results, Tryz.results81, go_sem, cell_res hz9]; rfl) rfl ?_
            exact ⟨rfl, k0.trans hb9⟩
          · have H1 := fun W => hid (lex_digit D[0] W d1)
            clear d1
            go_enter Tryz.func81, Tryz.ntmps81
            go_wp2_with fail
            refine ((H0 _).out).mono ?_
            rintro e w1 ⟨rfl, rfl⟩
            go_wp2_with fail
            refine ((H1 _).out).mono ?_
            rintro e w1 ⟨rfl, rfl⟩
            go_wp2_with fail
            refine ((H2 _).out).mono ?_
            rintro e w1 ⟨rfl, rfl⟩
            go_wp2_with (refine wpList_store_res rfl rfl rfl rfl hz infoTok rfl rfl ?_; intro w9 hz9 hb9)
            refine bodyPost_ret (by simp [results, Tryz.results81, go_sem, cell_res hz9]; rfl) rfl ?_
            exact ⟨rfl, k0.trans hb9⟩
          · have H1 := fun W => hid (lex_digit D[0] W d1)
            have H4 := fun W => hid (lex_digit D[1] W d3)
            clear d1 d3
            go_enter Tryz.func81, Tryz.ntmps81
            go_wp2_with fail
            refine ((H0 _).out).mono ?_
            rintro e w1 ⟨rfl, rfl⟩
            go_wp2_with fail
            refine ((H1 _).out).mono ?_
            rintro e w1 ⟨rfl, rfl⟩
            go_wp2_with fail
            refine ((H4 _).out).mono ?_
            rintro e w1 ⟨rfl, rfl⟩
            go_wp2_with fail
            refine ((H2 _).out).mono ?_
            rintro e w1 ⟨rfl, rfl⟩
            go_wp2_with (refine wpList_store_res rfl rfl rfl rfl hz infoTok rfl rfl ?_; intro w9 hz9 hb9)
            refine bodyPost_ret (by simp [results, Tryz.results81, go_sem, cell_res hz9]; rfl) rfl ?_
            exact ⟨rfl, k0.trans hb9⟩
        | some m =>
          rw [hsl] at hx
          have hle := (strLen_le hsl).2
          have hll : D.data.toList.length = D.size := by simp
          rw [hll] at hle
          have H2 := fun W => hid (lex_stringLength D W hp hDm (n := m) (b := true) (by rw [hsl]; rfl))
          obtain ⟨B, hB⟩ : ∃ B : ByteArray, D.extract 0 m = B := ⟨_, rfl⟩
          have hBl : D.data.toList.take m = B.data.toList := by
            rw [← hB]; simp [ByteArray.data_extract, Array.toList_extract, List.extract]
          have hBs : B.size ≤ 100000 := by rw [← hB]; simp; omega
          simp only at hx
          rw [hBl] at hx
          have H3 := fun W (h : Below w.heap.size w W) => hid (lex_literal 3 B a W hBs (hE.below h).env.err hx)
          clear hx hE hl hn hsl h34 hBl hll
          rcases hways with ⟨d1, d2⟩ | ⟨d1, d2, d3⟩ | ⟨h1, d1, d2, d3⟩
          · have H1 := fun W => hid (lex_digit D[0] W d1)
            clear d1
            go_enter Tryz.func81, Tryz.ntmps81
            go_wp2_with fail
            refine ((H0 _).out).mono ?_
            rintro e w1 ⟨rfl, rfl⟩
            go_wp2_with fail
            refine ((H1 _).out).mono ?_
            rintro e w1 ⟨rfl, rfl⟩
            go_wp2_with fail
            refine ((H2 _).out).mono ?_
            rintro e w1 ⟨rfl, rfl⟩
            go_wp2_with fail
            refine ((H3 _ k0).out).mono ?_
            rintro e w1 ⟨rfl, b1⟩
            have hz1 := res_keep hz b1 (by simp)
            have k1 := k0.trans (b1.mono k0.size)
            go_wp2_with (refine wpList_store_res rfl rfl rfl rfl hz1 infoTok rfl rfl ?_; intro w9 hz9 hb9)
            refine bodyPost_ret (by simp [results, Tryz.results81, go_sem, cell_res hz9]; rfl) rfl ?_
            exact ⟨rfl, k1.trans hb9⟩
          · have H1 := fun W => hid (lex_digit D[0] W d1)
            clear d1
            go_enter Tryz.func81, Tryz.ntmps81
            go_wp2_with fail
            refine ((H0 _).out).mono ?_
            rintro e w1 ⟨rfl, rfl⟩
            go_wp2_with fail
            refine ((H1 _).out).mono ?_
            rintro e w1 ⟨rfl, rfl⟩
            go_wp2_with fail
            refine ((H2 _).out).mono ?_
            rintro e w1 ⟨rfl, rfl⟩
            go_wp2_with fail
            refine ((H3 _ k0).out).mono ?_
            rintro e w1 ⟨rfl, b1⟩
            have hz1 := res_keep hz b1 (by simp)
            have k1 := k0.trans (b1.mono k0.size)
            go_wp2_with (refine wpList_store_res rfl rfl rfl rfl hz1 infoTok rfl rfl ?_; intro w9 hz9 hb9)
            refine bodyPost_ret (by simp [results, Tryz.results81, go_sem, cell_res hz9]; rfl) rfl ?_
            exact ⟨rfl, k1.trans hb9⟩
          · have H1 := fun W => hid (lex_digit D[0] W d1)
            have H4 := fun W => hid (lex_digit D[1] W d3)
            clear d1 d3
            go_enter Tryz.func81, Tryz.ntmps81
            go_wp2_with fail
            refine ((H0 _).out).mono ?_
            rintro e w1 ⟨rfl, rfl⟩
            go_wp2_with fail
            refine ((H1 _).out).mono ?_
            rintro e w1 ⟨rfl, rfl⟩
            go_wp2_with fail
            refine ((H4 _).out).mono ?_
            rintro e w1 ⟨rfl, rfl⟩
            go_wp2_with fail
            refine ((H2 _).out).mono ?_
            rintro e w1 ⟨rfl, rfl⟩
            go_wp2_with fail
            refine ((H3 _ k0).out).mono ?_
            rintro e w1 ⟨rfl, b1⟩
            have hz1 := res_keep hz b1 (by simp)
            have k1 := k0.trans (b1.mono k0.size)
            go_wp2_with (refine wpList_store_res rfl rfl rfl rfl hz1 infoTok rfl rfl ?_; intro w9 hz9 hb9)
            refine bodyPost_ret (by simp [results, Tryz.results81, go_sem, cell_res hz9]; rfl) rfl ?_
            exact ⟨rfl, k1.trans hb9⟩
      · rw [if_neg h34] at hx
        have b34 : ((D[0].toNat : Int) == 34) = false := by
          have : D[0].toNat ≠ 34 := fun e => h34 (UInt8.toNat.inj e)
          simp; omega
        rcases hways with ⟨d1, d2⟩ | ⟨d1, d2, d3⟩ | ⟨h1, d1, d2, d3⟩
        · exact lex_next_sym1 s a w hE ha hs D hD hp hDm hl d1 d2 b34 hx
        · exact lex_next_sym2 s a w hE ha hs D hD hp hDm hl d1 d2 d3 b34 hx
        · exact lex_next_sym3 s a w hE ha hs D hD hp hDm hl h1 d1 d2 d3 b34 hx
    · rw [hn, if_pos rfl] at hx
      obtain ⟨m, hm⟩ : ∃ m, wordLen (D.data.toList.drop 1) = m := ⟨_, rfl⟩
      have hmle : m + 1 ≤ D.size := by
        have := wordLen_le (D.data.toList.drop 1)
        rw [hm, List.length_drop] at this
        have hll : D.data.toList.length = D.size := by simp
        omega
      rw [hm] at hx
      have H2 := fun W => hid (lex_wordLength (D.extract 1 D.size) W (by simp; omega) (x := m) (by rw [drop_extract]; exact hm))
      obtain ⟨B, hB⟩ : ∃ B : ByteArray, D.extract 0 (1 + m) = B := ⟨_, rfl⟩
      have hBl : D.data.toList.take (1 + m) = B.data.toList := by
        rw [← hB]; simp [ByteArray.data_extract, Array.toList_extract, List.extract]
      have hBs : B.size ≤ 100000 := by rw [← hB]; simp; omega
      rw [hBl] at hx
      have H3 := fun W (h : Below w.heap.size w W) => hid (lex_literal 2 B a W hBs (hE.below h).env.err hx)
      rcases num_ways D hp hn with ⟨_, d1⟩ | ⟨h1, _, d1, d2, d3⟩ | ⟨h, _⟩ | ⟨h, _⟩ | ⟨_, h, _⟩
      · have H1 := fun W => hid (lex_digit D[0] W d1)
        clear hx hE hl hn hm hBl d1
        go_enter Tryz.func81, Tryz.ntmps81
        go_wp2_with fail
        refine ((H0 _).out).mono ?_
        rintro e w1 ⟨rfl, rfl⟩
        go_wp2_with fail
        refine ((H1 _).out).mono ?_
        rintro e w1 ⟨rfl, rfl⟩
        go_wp2_with fail
        refine ((H2 _).out).mono ?_
        rintro e w1 ⟨rfl, rfl⟩
        go_wp2_with fail
        refine ((H3 _ k0).out).mono ?_
        rintro e w1 ⟨rfl, b1⟩
        have hz1 := res_keep hz b1 (by simp)
        have k1 := k0.trans (b1.mono k0.size)
        go_wp2_with (refine wpList_store_res rfl rfl rfl rfl hz1 infoTok rfl rfl ?_; intro w9 hz9 hb9)
        refine bodyPost_ret (by simp [results, Tryz.results81, go_sem, cell_res hz9]; rfl) rfl ?_
        exact ⟨rfl, k1.trans hb9⟩
      · have H1 := fun W => hid (lex_digit D[0] W d1)
        have H4 := fun W => hid (lex_digit D[1] W d3)
        clear hx hE hl hn hm hBl d1 d3
        have b45 : ((D[0].toNat : Int) == 45) = true := by rw [d2]; rfl
        clear d2
        go_enter Tryz.func81, Tryz.ntmps81
        go_wp2_with fail
        refine ((H0 _).out).mono ?_
        rintro e w1 ⟨rfl, rfl⟩
        go_wp2_with fail
        refine ((H1 _).out).mono ?_
        rintro e w1 ⟨rfl, rfl⟩
        go_wp2_with fail
        refine ((H4 _).out).mono ?_
        rintro e w1 ⟨rfl, rfl⟩
        go_wp2_with fail
        refine ((H2 _).out).mono ?_
        rintro e w1 ⟨rfl, rfl⟩
        go_wp2_with fail
        refine ((H3 _ k0).out).mono ?_
        rintro e w1 ⟨rfl, b1⟩
        have hz1 := res_keep hz b1 (by simp)
        have k1 := k0.trans (b1.mono k0.size)
        go_wp2_with (refine wpList_store_res rfl rfl rfl rfl hz1 infoTok rfl rfl ?_; intro w9 hz9 hb9)
        refine bodyPost_ret (by simp [results, Tryz.results81, go_sem, cell_res hz9]; rfl) rfl ?_
        exact ⟨rfl, k1.trans hb9⟩
      · cases h
      · cases h
      · cases h
  · rw [hl, if_pos rfl] at hx
    have H0 := fun W => hid (lex_letter D[0] W hl)
    have H1 := fun W => hid (lex_word D a W hDm hx)
    clear hx hE hl
    go_enter Tryz.func81, Tryz.ntmps81
    go_wp2_with fail
    refine ((H0 _).out).mono ?_
    rintro e w1 ⟨rfl, rfl⟩
    go_wp2_with fail
    refine ((H1 _).out).mono ?_
    rintro e w1 ⟨rfl, b1⟩
    have hz1 := res_keep hz b1 (by simp)
    have k1 := k0.trans (b1.mono k0.size)
    go_wp2_with (refine wpList_store_res rfl rfl rfl rfl hz1 infoTok rfl rfl ?_; intro w9 hz9 hb9)
    refine bodyPost_ret (by simp [results, Tryz.results81, go_sem, cell_res hz9]; rfl) rfl ?_
    exact ⟨rfl, k1.trans hb9⟩
end

/-! ### Lw4 -/
section
open Go.RowKit

theorem scan1_skip : ∀ (l : List UInt8) (a : Int), scan1 l a = scan1 (l.drop (skipN l)) (a + skipN l)
  | [], a => by simp [skipN]
  | c :: r, a => by
    by_cases h : whtB c = true
    · have e : skipN (c :: r) = skipN r + 1 := by unfold skipN; rw [List.takeWhile_cons, if_pos h]; rfl
      rw [scan1_white h, scan1_skip r (a + 1), e, List.drop_succ_cons]
      congr 1; omega
    · have e : skipN (c :: r) = 0 := by unfold skipN; rw [List.takeWhile_cons, if_neg h]; rfl
      rw [e]; simp
theorem skip_head : ∀ (l : List UInt8), l.drop (skipN l) = [] ∨ whtB ((l.drop (skipN l)).getD 0 0) = false
  | [] => .inl (by simp)
  | c :: r => by
    by_cases h : whtB c = true
    · have e : skipN (c :: r) = skipN r + 1 := by unfold skipN; rw [List.takeWhile_cons, if_pos h]; rfl
      rw [e, List.drop_succ_cons]
      exact skip_head r
    · have e : skipN (c :: r) = 0 := by unfold skipN; rw [List.takeWhile_cons, if_neg h]; rfl
      right; rw [e]; simpa using h
theorem skipN_le (l : List UInt8) : skipN l ≤ l.length := (List.takeWhile_prefix _).length_le

/-- Tokens so far, and what is still to come. -/
def glue (ts : List Tok) (y : List Tok × Int × Int) : List Tok × Int × Int := if y.2.2 = 0 then (ts ++ y.1, y.2.1, 0) else y
theorem glue_nil (y : List Tok × Int × Int) : glue [] y = y := by
  unfold glue
  split
  · rename_i h; exact Prod.ext rfl (Prod.ext rfl h.symm)
  · rfl
theorem glue_end (ts : List Tok) (a : Int) : glue ts (scan1 [] a) = (ts ++ [⟨0, [], V0, a⟩], 0, 0) := by rw [scan1_nil]; rfl
theorem glue_bad {ts : List Tok} {r : List UInt8} {a : Int} {t : Tok} {e : Int} (hr : r ≠ []) (hw : whtB (r.getD 0 0) = false) (h : nextL r a = (t, e)) (he : e ≠ 0) : glue ts (scan1 r a) = ([], a, e) := by
  rw [scan1_bad hr hw (by rw [h]; exact he), h]
  unfold glue; rw [if_neg he]
theorem glue_tok {ts : List Tok} {r : List UInt8} {a : Int} {t : Tok} (hr : r ≠ []) (hw : whtB (r.getD 0 0) = false) (h : nextL r a = (t, 0)) : glue ts (scan1 r a) = glue (ts ++ [t]) (scan1 (r.drop t.t.length) (a + t.t.length)) := by
  rw [scan1_tok hr hw h]
  unfold glue
  by_cases h0 : (scan1 (r.drop t.t.length) (a + t.t.length)).2.2 = 0
  · rw [if_pos h0]; simp only [if_true]; rw [if_pos h0]
    obtain ⟨_, hq⟩ := scan_ok (l := r.drop t.t.length) (a := a + t.t.length) (ts := (scan1 (r.drop t.t.length) (a + t.t.length)).1) (q := (scan1 (r.drop t.t.length) (a + t.t.length)).2.1) (Prod.ext rfl (Prod.ext rfl h0))
    rw [hq]; simp
  · rw [if_neg h0, if_neg h0, if_neg h0]

theorem infoT : (Tryz.prog.info? 117).map (fun i => (i.zero, i.size, i.bytes)) = some (some (.agg zTok), 6, 64) := by kernel_rfl
theorem flatT_snoc {w : World} {B : Nat} {v : Value} {l : List Tok} {t : Tok} (h : w.ownsRow B 117 6 v (l.length + 1) (flatT l ++ [.int .i64 t.k, .string ⟨t.t.toArray⟩, .int .i64 t.v.k, .int .i64 t.v.n, .string t.v.s, .int .i64 t.a])) : w.ownsRow B 117 6 v (l ++ [t]).length (flatT (l ++ [t])) := by
  rw [List.length_append, flatT_append]; exact h

set_option maxRecDepth 100000 in
set_option maxHeartbeats 2000000 in
theorem lex_scan (s : ByteArray) (w : World) (hE : EnvL w) (hs : s.size ≤ 100000) {x : List Tok × Int × Int} (hx : scanL s.data.toList = x) :
    Calls Tryz.prog 63 #[.string s] w (RetS w x) := by
  obtain ⟨i0, hi, hz0, hz1, hz2⟩ := info_parts infoT
  have hll : s.data.toList.length = s.size := by simp
  unfold scanL at hx
  rw [hll] at hx
  by_cases hbig : 65536 < s.size
  · rw [if_pos hbig] at hx
    subst hx
    clear hE hll
    go_enter Tryz.func63, Tryz.ntmps63
    go_wp2
    go_ret3
    exact ⟨none, 0, rfl, fun h => absurd h (by simp), by simp, Below.refl _ _⟩
  · rw [if_neg hbig] at hx
    have HX : Hid (glue [] (scan1 (s.data.toList.drop 0) ((0 : Nat) : Int)) = x) := hid (by rw [glue_nil]; exact hx)
    clear hx hll
    go_enter Tryz.func63, Tryz.ntmps63
    go_wp2
    go_loopw [5, 6] (fun v i wr => ∃ (a : Nat) (ts : List Tok), a ≤ s.size ∧ i = .int .i64 a ∧ wr.ownsRow w.heap.size 117 6 v ts.length (flatT ts) ∧ ts.length ≤ a ∧ Hid (glue ts (scan1 (s.data.toList.drop a) (a : Int)) = x) ∧ Below w.heap.size w wr) (fun _ i _ => s.size - (intOf i).toNat)
    case atStart => exact ⟨0, [], by omega, rfl, World.ownsRow_nil _ _ _ _, by simp, HX, Below.refl _ _⟩
    case round =>
      obtain ⟨a, ts, ha, rfl, hown, hlen, HK, hbel⟩ := hrel
      clear HX
      obtain ⟨b, hb⟩ : ∃ b, a + skipN (s.data.toList.drop a) = b := ⟨_, rfl⟩
      have H1 := fun W => hid (lex_skip s a W ha hs hb)
      have hsk := scan1_skip (s.data.toList.drop a) (a : Int)
      have hhd := skip_head (s.data.toList.drop a)
      have hsl := skipN_le (s.data.toList.drop a)
      have hll : s.data.toList.length = s.size := by simp
      rw [List.length_drop, hll] at hsl
      rw [List.drop_drop, hb] at hsk hhd
      have e1 : (a : Int) + (skipN (s.data.toList.drop a) : Int) = (b : Int) := by omega
      rw [e1] at hsk
      rw [hsk] at HK
      have hab : a ≤ b := by omega
      have hbs : b ≤ s.size := by omega
      clear hsk hb hsl hll e1
      by_cases hend : b = s.size
      · subst hend
        have e2 : s.data.toList.drop s.size = [] := List.drop_eq_nil_of_le (by simp)
        rw [e2, glue_end] at HK
        obtain rfl := HK.out
        clear HK hhd e2 hE
        go_wp2_with fail
        refine (H1 _).out.mono ?_
        rintro e w1 ⟨rfl, rfl⟩
        clear H1
        go_wp2_with (at_builtin; refine wpList_append_new Tryz.underlying108 hi hz0 hz1 hz2 rfl (by decide) (by decide) rfl rfl rfl hown rfl rfl rfl (by omega) hbel.size ?_; intro v2 w2 hown2 hg2; obtain ⟨A2, c2, rfl, hT2, hc2⟩ := own_toks (flatT_snoc (t := ⟨0, [], V0, s.size⟩) hown2))
        go_ret3
        exact ⟨A2, c2, by simp, hT2, hc2, hbel.trans (grown_below hown hg2 hbel.size)⟩
      · have hlt : b < s.size := by omega
        have bne : ((b : Int) == (s.size : Int)) = false := by simp; omega
        have hr : s.data.toList.drop b ≠ [] := by
          intro e
          have := congrArg List.length e
          simp at this; omega
        have hw := hhd.resolve_left hr
        obtain ⟨⟨t, q⟩, hn⟩ : ∃ p, nextL (s.data.toList.drop b) b = p := ⟨_, rfl⟩
        have H2 := fun W (h : Below w.heap.size w W) => hid (lex_next s b W (hE.below h) hlt hs hn)
        by_cases hq : q = 0
        · subst hq
          rw [glue_tok hr hw hn, List.drop_drop] at HK
          have hpre := (nextL_ok hr hn).1
          have hne := (nextL_ok hr hn).2.1
          have hpl := hpre.length_le
          have hpos := List.length_pos_iff.2 hne
          have hll : s.data.toList.length = s.size := by simp
          rw [List.length_drop, hll] at hpl
          have HK2 : Hid (glue (ts ++ [t]) (scan1 (s.data.toList.drop (b + t.t.length)) ((b + t.t.length : Nat) : Int)) = x) := HK
          clear HK hr hw hn hhd hE hll hpre hne hend
          go_wp2_with fail
          refine (H1 _).out.mono ?_
          rintro e w1 ⟨rfl, rfl⟩
          clear H1
          go_wp2_with fail
          refine (H2 _ hbel).out.mono ?_
          rintro e w1 ⟨rfl, b1⟩
          have hbel1 := hbel.trans (b1.mono hbel.size)
          have hown1 := own_below hown b1
          clear H2 b1 hown
          have hbelA := hbel1.trans ((below_one w1 (.cells #[.int .i64 t.k, .string ⟨t.t.toArray⟩, .int .i64 t.v.k, .int .i64 t.v.n, .string t.v.s, .int .i64 t.a] 117)).mono hbel1.size)
          have hownA := own_below hown1 (below_one w1 (.cells #[.int .i64 t.k, .string ⟨t.t.toArray⟩, .int .i64 t.v.k, .int .i64 t.v.n, .string t.v.s, .int .i64 t.a] 117))
          go_wp2_with (at_builtin; refine wpList_append_new2 Tryz.underlying108 hi hz0 hz1 hz2 rfl (by decide) (by decide) rfl rfl rfl hownA rfl (by simp) rfl rfl (by omega) hbelA.size ?_; intro v2 w2 hown2 hg2; have hzt := (hg2.block w1.heap.size (by simp) (fun e => by have := (hown1.lt _ e.symm).2; omega)).trans (heap_alloc_new w1 _); have c1 := cell_res hzt 1)
          go_roundw
          case rel => exact ⟨b + t.t.length, ts ++ [t], by omega, by go_num, flatT_snoc hown2, by simp; omega, HK2, hbelA.trans (grown_below hownA hg2 hbelA.size)⟩
          case measure => simp [intOf]; omega
        · rw [glue_bad hr hw hn hq] at HK
          obtain rfl := HK.out
          have bq : (q != 0) = true := by simpa using hq
          clear HK hr hw hn hhd hE hq hend
          go_wp2_with fail
          refine (H1 _).out.mono ?_
          rintro e w1 ⟨rfl, rfl⟩
          clear H1
          go_wp2_with fail
          refine (H2 _ hbel).out.mono ?_
          rintro e w1 ⟨rfl, b1⟩
          have hbel1 := hbel.trans (b1.mono hbel.size)
          have hbelA := hbel1.trans ((below_one w1 (.cells #[.int .i64 t.k, .string ⟨t.t.toArray⟩, .int .i64 t.v.k, .int .i64 t.v.n, .string t.v.s, .int .i64 t.a] 117)).mono hbel1.size)
          clear H2 b1 hown
          go_wp2
          go_ret3
          exact ⟨none, 0, rfl, fun h => absurd h (by simp), by simp, hbelA⟩
end

/-! ### PgZ -/
section
open Go.RowKit

theorem own_qry {w : World} {B : Nat} {H R O : Option Addr} {ch cr co : Nat} {q : Qry} (h : OwnQy w B H ch R cr O co q) (hs : q.some) : QryIn w q H R O ch cr co := by
  obtain ⟨A1, c1, e1, h1, l1⟩ := own_names h.1
  obtain ⟨A2, c2, e2, h2, l2⟩ := ren_ruls h.2.1 hs.s
  obtain ⟨A3, c3, e3, h3, l3⟩ := ren_keys h.2.2
  injection e1 with e1 _ e1'
  injection e2 with e2 _ e2'
  injection e3 with e3 _ e3'
  subst e1 e1' e2 e2' e3 e3'
  have := hs.h; have := hs.r; have := hs.o
  exact ⟨h1, h2, h3, l1, l2, l3, by omega, by omega, by omega⟩
theorem QryOkN.some {n : Nat} {q : Qry} (h : QryOkN n q) (hn : n ≤ 100000) : q.some :=
  ⟨Nat.le_trans h.h hn, Nat.le_trans h.r hn, Nat.le_trans h.o hn, fun r hr => ⟨Nat.le_trans (h.s r hr).a hn, Nat.le_trans (h.s r hr).c hn, fun a ha => Nat.le_trans ((h.s r hr).t a ha) hn⟩⟩
theorem Q0_in (w : World) : QryIn w Q0 none none none 0 0 0 := ⟨fun h => absurd h (by decide), fun h => absurd h (by decide), fun h => absurd h (by decide), by decide, by decide, by decide, by decide, by decide, by decide⟩
theorem Q0_wf : Q0.wf := ⟨fun h hh => (by cases hh), ⟨by decide, by decide⟩, by decide, fun h hh => (by cases hh), fun h hh => (by cases hh)⟩
/-- A call that returns a query, an offset and an error's number. -/
def RetPa (w : World) (x : Qry × Int × Int) (e : Ending) (w' : World) : Prop :=
  ∃ A R O ch cr co, e = .returned (.tuple #[qryV x.1 A R O ch cr co, .int .i64 x.2.1, .int .i64 x.2.2]) ∧ QryIn w' x.1 A R O ch cr co ∧ x.1.wf ∧ Below w.heap.size w w'
theorem retPa_zero {w w' : World} {a e : Int} (h : Below w.heap.size w w') : RetPa w (Q0, a, e) (.returned (.tuple #[.agg #[.slice none 0 0, .int .i64 0, .string ⟨#[]⟩, .slice none 0 0, .slice none 0 0], .int .i64 a, .int .i64 e])) w' :=
  ⟨none, none, none, 0, 0, 0, rfl, Q0_in w', Q0_wf, h⟩
/-- The same as rows of the call's own. -/
def RetPk (w : World) (x : Qry × Int × Int) (e : Ending) (w' : World) : Prop :=
  ∃ A R O ch cr co, e = .returned (.tuple #[qryV x.1 A R O ch cr co, .int .i64 x.2.1, .int .i64 x.2.2]) ∧ OwnQy w' w.heap.size A ch R cr O co x.1 ∧ x.1.some ∧ x.1.wf ∧ Below w.heap.size w w'
theorem RetPk.plain {w w' : World} {x : Qry × Int × Int} {e : Ending} (h : RetPk w x e w') : RetPa w x e w' :=
  let ⟨A, R, O, ch, cr, co, h1, h2, h5, h3, h4⟩ := h; ⟨A, R, O, ch, cr, co, h1, own_qry h2 h5, h3, h4⟩
theorem Q0_some : Q0.some := ⟨by decide, by decide, by decide, fun r hr => by cases hr⟩
theorem OwnQy.chg {w w' : World} {S : List Nat} {B : Nat} {H R O : Option Addr} {ch cr co : Nat} {q : Qry} (h : OwnQy w B H ch R cr O co q) (hc : Chg S w w') (hS : ∀ s ∈ S, s < B) : OwnQy w' B H ch R cr O co q :=
  ⟨hc.ownS h.1 hS, h.2.1.chg hc hS, hc.ownS h.2.2 hS⟩
theorem retPk_zero {w w' : World} {a e : Int} (h : Below w.heap.size w w') : RetPk w (Q0, a, e) (.returned (.tuple #[.agg #[.slice none 0 0, .int .i64 0, .string ⟨#[]⟩, .slice none 0 0, .slice none 0 0], .int .i64 a, .int .i64 e])) w' :=
  ⟨none, none, none, 0, 0, 0, rfl, ⟨World.ownsRow_nil _ _ _ _, OwnRls.nil, World.ownsRow_nil _ _ _ _⟩, Q0_some, Q0_wf, h⟩
abbrev qryZ : Array Value := #[.slice none 0 0, .int .i64 0, .string ⟨#[]⟩, .slice none 0 0, .slice none 0 0]

set_option maxRecDepth 100000 in
set_option maxHeartbeats 4000000 in
theorem prs_parse_far (s : ByteArray) (w : World) (hE : EnvL w) (hs : s.size ≤ 65536) {t : List Tok × Int × Int} (ht : scanL s.data.toList = t) {x : Qry × Int × Int} (hx : parseP t = x) :
    Calls Tryz.prog 49 #[.string s] w (RetPk w x) := by
  obtain ⟨L, ta, te⟩ := t
  have k0 := below_one w (.cells qryZ 95)
  have hz := heap_alloc_new w (.cells qryZ 95)
  have HSc := hid (lex_scan s _ (hE.below k0) (by omega) ht)
  have hlen : s.data.toList.length = s.size := by simp
  by_cases he : te = 0
  · subst he
    obtain ⟨hsc, hta, _⟩ := scanL_ok ht
    have hEn := hsc.ended
    have hfew := hsc.head
    have hTk := hsc.tkOk (by omega)
    subst hta
    obtain ⟨o, ho⟩ : ∃ o, queryS (tkL L) L.length = o := ⟨_, rfl⟩
    have hgram : gramQ L = match fullS (tkL L) o with
      | .bad e => (Q0, (tkL L e).a, 21)
      | .ok q _ => (q, 0, 0) := by unfold gramQ; rw [ho]; rfl
    have HQu := hid (fun V bp bq c A (p : PW bp A c L 0 V) (hb : V.heap[bq]? = some (.cells (qryA (.slice none 0 0) 0 ⟨#[]⟩ (.slice none 0 0) (.slice none 0 0)) 95)) (hpq : bp < bq) => prs_query p hb hpq ho)
    have HOk := hid (fun q nx (e : o = .ok q nx) => queryS_ok hTk (ho.trans e))
    have HEn := hid hEn
    have hfew2 : L.length ≤ 70000 := by omega
    have HGr := hid hgram
    have HX := hid hx
    have F0 := fun t : Tok => tok_at t.k t.v.k t.v.n t.a ⟨t.t.toArray⟩ t.v.s
    have HTo := hid (fun V bp k c A (p : PW bp A c L k V) => prs_token p)
    clear ht hE hsc hEn hTk ho hgram hfew hx
    go_enter Tryz.func49, Tryz.ntmps49
    go_wp2_with fail
    refine HSc.out.mono ?_
    rintro e w1 ⟨A, c, rfl, hT, hc, b1⟩
    have k1 := k0.trans (b1.mono k0.size)
    have hz1 := res_keep hz b1 (by simp)
    have hs1 : w.heap.size + 1 ≤ w1.heap.size := by have := b1.size; simp at this; omega
    obtain ⟨w2, hw2⟩ : ∃ w2, (w1.alloc (.cells #[.slice A L.length c, .int .i64 0] 113)).alloc (.cells qryZ 95) = w2 := ⟨_, rfl⟩
    have k12 : Below w1.heap.size w1 w2 := by rw [← hw2]; exact ((Below.refl _ _).alloc (Nat.le_refl _) _).alloc (by simp) _
    have hs2 : w2.heap.size = w1.heap.size + 1 + 1 := by rw [← hw2]; simp
    have hbp : w2.heap[w1.heap.size]? = some (prsO A L.length c 0) := by rw [← hw2, Below.heap_alloc _ _ _ (by simp)]; exact heap_alloc_new w1 _
    have hbq : w2.heap[w1.heap.size + 1]? = some (.cells qryZ 95) := by rw [← hw2]; have := heap_alloc_new (w1.alloc (.cells #[.slice A L.length c, .int .i64 0] 113)) (.cells qryZ 95); rwa [World.size_alloc] at this
    have hap : ∀ ad, A = some ad → ad.block < w1.heap.size := fun ad e => by
      obtain ⟨b, o', e2, hcl⟩ := hT HEn.out.pos
      rw [e] at e2
      injection e2 with e2
      subst e2
      exact cell_lt (hcl 0 HEn.out.pos).1
    have P2 := hid (show PW w1.heap.size A c L 0 w2 from ⟨hbp, hT.below k12, HEn.out, hfew2, hap, HEn.out.pos⟩)
    have HQ2 := hid (HQu.out w2 w1.heap.size (w1.heap.size + 1) c A P2.out hbq (by omega))
    have HZ2 := hid ((k12.block _ (by omega)).trans hz1)
    have K2 := hid (k1.trans (k12.mono (by omega)))
    have K2s : w.heap.size ≤ w2.heap.size := K2.out.size
    have HW2 := hid hw2
    clear hT hc b1 k1 hz1 hz k0 hw2 k12 hbp hbq hap HSc HQu P2
    cases o with
    | bad b =>
      have hg : gramQ L = (Q0, (tkL L b).a, 21) := HGr.out
      have hx2 : x = (Q0, (tkL L b).a, 21) := by rw [← HX.out]; simp [parseP, hg]
      subst hx2
      clear HX HGr hg
      go_wp2_with (first | rw [HW2.out] | fail)
      refine HQ2.out.mono ?_
      rintro e w3 ⟨⟨rfl, p3⟩, c3⟩
      have hs3 := c3.size
      have HZ3 := hid ((c3.block _ (by omega) (by simp; omega)).trans HZ2.out)
      have K3 := hid (K2.out.trans (c3.below (B := w.heap.size) (fun s hs => by simp at hs; omega) (by omega)))
      have P3 := hid p3
      clear c3 p3 HQ2 K2 HZ2
      have HT3 := hid (HTo.out w3 w1.heap.size b c A P3.out)
      generalize tkL L b = t at *
      have F1 := F0 t
      clear F0
      go_wp2_with fail
      refine HT3.out.mono ?_
      rintro e w4 ⟨rfl, b4⟩
      have hz4 := (b4.block _ (by have := HZ3.out; have := lt_of_block this; omega)).trans HZ3.out
      have K4 := hid (K3.out.trans (b4.mono K3.out.size))
      clear b4 HT3
      go_wp2_with (refine wpList_store_res rfl rfl rfl rfl hz4 infoQyP rfl rfl ?_; intro w9 hz9 hb9)
      refine bodyPost_ret (by simp [results, Tryz.results49, go_sem, cell_res hz9]; rfl) rfl ?_
      exact retPk_zero (K4.out.trans hb9)
    | ok q nx =>
      obtain ⟨z, hz⟩ : ∃ z, ((tkL L nx).k == 0) = z := ⟨_, rfl⟩
      have HEd := hid (fun V (p : PW w1.heap.size A c L nx V) => prs_end p hz)
      go_wp2_with (first | rw [HW2.out] | fail)
      refine HQ2.out.mono ?_
      rintro e w3' ⟨⟨rfl, p3, H, ch, R, cr, O, co, b3, r3⟩, c3⟩
      have hs3 := c3.size
      have HE3 := hid (HEd.out w3' p3)
      have HZ3' := hid ((c3.block _ (by omega) (by simp; omega)).trans HZ2.out)
      have K3' := hid (K2.out.trans (c3.below (B := w.heap.size) (fun s hs => by simp at hs; omega) (by omega)))
      have HF3 := hid (And.intro p3 (And.intro b3 r3))
      clear c3 p3 b3 r3 HQ2 K2 HZ2 HEd
      go_wp2_with fail
      refine HE3.out.mono ?_
      rintro e w3 ⟨rfl, be⟩
      have HZ3 := hid ((be.block _ (by omega)).trans HZ3'.out)
      have K3 := hid (K3'.out.trans (be.mono K3'.out.size))
      have hse := be.size
      have HF := hid (show PW w1.heap.size A c L nx w3 ∧ w3.heap[w1.heap.size + 1]? = some (.cells (qyC H q.head.length ch q.agg ⟨q.aggVar.toArray⟩ R q.rules.length cr O q.order.length co) 95) ∧ OwnQy w3 w2.heap.size H ch R cr O co q from
        ⟨HF3.out.1.below be, (be.block _ (by omega)).trans HF3.out.2.1, HF3.out.2.2.below be⟩)
      clear be HE3 HZ3' K3' HF3
      cases z with
      | false =>
        have hk : (tkL L nx).k ≠ 0 := by simpa using hz
        have hg : gramQ L = (Q0, (tkL L nx).a, 21) := by rw [HGr.out]; unfold fullS; simp only; rw [if_neg hk]
        have hx2 : x = (Q0, (tkL L nx).a, 21) := by rw [← HX.out]; simp [parseP, hg]
        subst hx2
        clear HX HGr hg hz hk
        have HT3 := hid (HTo.out w3 w1.heap.size nx c A HF.out.1)
        generalize tkL L nx = t at *
        have F1 := F0 t
        clear F0
        go_wp2_with fail
        refine HT3.out.mono ?_
        rintro e w4 ⟨rfl, b4⟩
        have hz4 := (b4.block _ (by have := HZ3.out; have := lt_of_block this; omega)).trans HZ3.out
        have K4 := hid (K3.out.trans (b4.mono K3.out.size))
        clear b4 HT3
        go_wp2_with (refine wpList_store_res rfl rfl rfl rfl hz4 infoQyP rfl rfl ?_; intro w9 hz9 hb9)
        refine bodyPost_ret (by simp [results, Tryz.results49, go_sem, cell_res hz9]; rfl) rfl ?_
        exact retPk_zero (K4.out.trans hb9)
      | true =>
        have hk : (tkL L nx).k = 0 := by simpa using hz
        have hg : gramQ L = (q, 0, 0) := by rw [HGr.out]; unfold fullS; simp only; rw [if_pos hk]
        have hok := HOk.out q nx rfl
        obtain ⟨y, hy⟩ : ∃ y, checkQ q = y := ⟨_, rfl⟩
        have hx2 : x = if y = 0 then (q, 0, 0) else (Q0, 0, y) := by rw [← HX.out, ← hy]; simp [parseP, hg]
        have HX2 := hid hx2
        clear hx2
        have hin := own_qry HF.out.2.2 (hok.some (by omega))
        have HSm := hid (hok.some (by omega))
        have HOw := hid HF.out.2.2
        have HCk := hid (ast_check q H R O ch cr co w3 hin hok.wf hy)
        have HIn := hid hin
        have HWf := hid hok.wf
        have d0 := box_cell HF.out.2.1 0
        have d1 := box_cell HF.out.2.1 1
        have d2 := box_cell HF.out.2.1 2
        have d3 := box_cell HF.out.2.1 3
        have d4 := box_cell HF.out.2.1 4
        have hbx := HF.out.2.1
        have HBx := hid hbx
        clear HX HGr hg hz hk hok hin hy HOk hbx F0
        go_wp2_with fail
        refine HCk.out.mono ?_
        rintro e w4 ⟨rfl, b4⟩
        have hz4 := (b4.block _ (by omega)).trans HZ3.out
        have K4 := hid (K3.out.trans (b4.mono K3.out.size))
        have HOw4 := hid (HOw.out.below b4)
        have d0 := cell_keep b4 d0
        have d1 := cell_keep b4 d1
        have d2 := cell_keep b4 d2
        have d3 := cell_keep b4 d3
        have d4 := cell_keep b4 d4
        clear HCk b4 HIn HBx HF HOw
        have hx2 := HX2.out
        clear HX2
        by_cases h0 : y = 0
        · have hb0 : (y != 0) = false := by simpa using h0
          subst h0
          rw [if_pos rfl] at hx2
          subst hx2
          go_wp2_with (refine wpList_stored2 rfl rfl rfl rfl hz4 infoQyP rfl rfl ?_; intro w9 hz9 hg9)
          refine bodyPost_ret (by simp [results, Tryz.results49, go_sem, cell_res hz9]; rfl) rfl ?_
          exact ⟨H, R, O, ch, cr, co, rfl, (HOw4.out.far hg9 (by omega)).mono K2s, HSm.out, HWf.out, K4.out.trans (grown_below' hg9 (Nat.le_refl _) K4.out.size)⟩
        · have hb0 : (y != 0) = true := by simpa using h0
          rw [if_neg h0] at hx2
          subst hx2
          clear h0
          go_wp2_with (refine wpList_store_res rfl rfl rfl rfl hz4 infoQyP rfl rfl ?_; intro w9 hz9 hb9)
          refine bodyPost_ret (by simp [results, Tryz.results49, go_sem, cell_res hz9]; rfl) rfl ?_
          exact retPk_zero (K4.out.trans hb9)
  · have hx2 : x = (Q0, ta, te) := by rw [← hx]; simp [parseP, he]
    subst hx2
    have hb0 : (te != 0) = true := by simpa using he
    clear ht hE hx he
    go_enter Tryz.func49, Tryz.ntmps49
    go_wp2_with fail
    refine HSc.out.mono ?_
    rintro e w1 ⟨A, c, rfl, hT, hc, b1⟩
    have hz1 := res_keep hz b1 (by simp)
    have K1 := hid (k0.trans (b1.mono k0.size))
    clear hT hc b1 hz k0 HSc
    go_wp2_with (refine wpList_store_res rfl rfl rfl rfl hz1 infoQyP rfl rfl ?_; intro w9 hz9 hb9)
    refine bodyPost_ret (by simp [results, Tryz.results49, go_sem, cell_res hz9]; rfl) rfl ?_
    exact retPk_zero (K1.out.trans hb9)
theorem prs_parse (s : ByteArray) (w : World) (hE : EnvL w) (hs : s.size ≤ 65536) {t : List Tok × Int × Int} (ht : scanL s.data.toList = t) {x : Qry × Int × Int} (hx : parseP t = x) :
    Calls Tryz.prog 49 #[.string s] w (RetPa w x) := (prs_parse_far s w hE hs ht hx).mono fun _ _ h => h.plain
end
end Go.Proofs.YtjhnopnppimnhaaGreatDoor
