/-
  WALK: ordinallaw18.LexerJoins.
-/
import Derived.Test.YtemihmehppbgmaaDoorAwake18
import Derived.Test.YtemihmehppbgmaaDoorLJoins0
import Derived.Test.YtemihmehppbgmaaDoorText
import Derived.ArgAppend
import Derived.Deep.QuietTactic
namespace Go.Proofs.YtemihmehppbgmaaDoor
open Go.RowKit

theorem flatT_drop {l : List Tok} (j : Nat) (u : Value) (h : (flatT l.dropLast)[j]? = some u) : (flatT l)[j]? = some u := by
  rcases List.eq_nil_or_concat l with rfl | ⟨l', t, rfl⟩
  · simpa using h
  · rw [List.concat_eq_append, List.dropLast_concat] at h
    rw [List.concat_eq_append, flatT_append, List.getElem?_append_left (List.getElem?_eq_some_iff.1 h).1]
    exact h
theorem flatT_one : ∀ (l : List Tok), ∀ u ∈ flatT l, u.oneCell' = true
  | [], u, h => by simp [flatT] at h
  | t :: l, u, h => by
    have e : flatT (t :: l) = [.int .i64 t.k, .string ⟨t.t.toArray⟩, .int .i64 t.v.k, .int .i64 t.v.n, .string t.v.s, .int .i64 t.a] ++ flatT l := rfl
    rw [e] at h
    rcases List.mem_append.1 h with h | h
    · simp only [List.mem_cons, List.not_mem_nil, or_false] at h
      rcases h with rfl | rfl | rfl | rfl | rfl | rfl <;> rfl
    · exact flatT_one l u h

set_option maxRecDepth 100000 in
set_option maxHeartbeats 2000000 in
theorem lj_big (s t : ByteArray) (_hs : s.size ≤ 65536) (_ht : t.size ≤ 65536) (w : World) (hE : EnvL w) {ts us : List Tok} {q1 q2 : Int} (hx1 : scanL s.data.toList = (ts, q1, 0)) (hx2 : scanL t.data.toList = (us, q2, 0)) (hb : 1000 < s.size + t.size) :
    Calls Tryd.prog 5 #[.string s, .string t] w fun e w' => e = .returned (.bool true) ∧ Below w.heap.size w w' := by
  have bb : decide ((1000 : Int) < (s.size : Int) + (t.size : Int)) = true := by simp; omega
  obtain ⟨n, hn, hnl⟩ := ok_ne hx1
  have HN := hid hn
  have HA := fun W (h : Below w.heap.size w W) => hid (awake18 W (hE.below h))
  have H1 := fun W (h : Below w.heap.size w W) => hid (lex_scan_any s W (hE.below h) hx1)
  have H2 := fun W (h : Below w.heap.size w W) => hid (lex_scan_any t W (hE.below h) hx2)
  have k0 := Below.refl w.heap.size w
  clear hx1 hx2 hE hn hnl hb
  go_enter Tryd.func5, Tryd.ntmps5
  go_wp2_with fail
  refine (H1 _ k0).out.mono ?_
  rintro e w1 ⟨A, c, rfl, hTA, hcA, k1⟩
  rw [HN.out]
  clear H1
  go_wp2_with fail
  refine (H2 _ k1).out.mono ?_
  rintro e w2 ⟨A2, c2, rfl, hTB, hcB, b2⟩
  have k2 := k1.trans (b2.mono k1.size)
  clear H2 k1
  go_wp2_with fail
  all_goals
    refine (HA _ k2).out.mono ?_
    rintro e w3 ⟨rfl, b3⟩
    have k3 := k2.trans (b3.mono k2.size)
    clear HA
    go_wp2
    go_ret
    exact ⟨rfl, k3⟩

set_option maxRecDepth 100000 in
set_option maxHeartbeats 2000000 in
theorem lj_main (s t : ByteArray) (_hs : s.size ≤ 65536) (_ht : t.size ≤ 65536) (w : World) (hE : EnvL w) {ts us : List Tok} {q1 q2 : Int} (hx1 : scanL s.data.toList = (ts, q1, 0)) (hx2 : scanL t.data.toList = (us, q2, 0)) (hb : s.size + t.size ≤ 1000) :
    Calls Tryd.prog 5 #[.string s, .string t] w fun e w' => e = .returned (.bool true) ∧ Below w.heap.size w w' := by
  have bb : decide ((1000 : Int) < (s.size : Int) + (t.size : Int)) = false := by simp; omega
  have hls : s.data.toList.length = s.size := by simp
  have hlt : t.data.toList.length = t.size := by simp
  obtain ⟨n, hn, hnl⟩ := ok_ne hx1
  obtain ⟨m, hm, hml⟩ := ok_ne hx2
  rw [hls] at hnl
  rw [hlt] at hml
  have HN := hid hn
  have HM := hid hm
  have hx3 := scanL_join hx1 hx2 (by omega)
  have hbd1 := (scanL_ok hx1).1.bounds
  have hbd2 := (scanL_ok hx2).1.bounds
  obtain ⟨js, hjs⟩ : ∃ js, ts.dropLast ++ us.map (Tok.sh (s.data.toList.length + 1)) = js := ⟨_, rfl⟩
  have hj : js.length = n + (m + 1) := by rw [← hjs, List.length_append, List.length_dropLast, List.length_map]; omega
  have hL : (ts.dropLast ++ us).length = n + (m + 1) := by rw [List.length_append, List.length_dropLast]; omega
  have hnth : ∀ k (h : k < (ts.dropLast ++ us).length) (h' : k < js.length), ∃ x : Tok, (ts.dropLast ++ us)[k] = x ∧ js[k] = ⟨x.k, x.t, x.v, if n ≤ k then x.a + (s.size + 1) else x.a⟩ ∧ (0 ≤ x.a ∧ x.a ≤ 1000) := by
    intro k h h'
    subst hjs
    obtain ⟨x, h1, h2, h3⟩ := join_nth hn (s.data.toList.length + 1) k h h'
    refine ⟨x, h1, by rw [h2, hls], ?_⟩
    rcases h3 with h3 | h3
    · have := hbd1 x h3; omega
    · have := hbd2 x h3; omega
  have hJ : scanL (s ++ (⟨#[10]⟩ : ByteArray) ++ t).data.toList = (js, 0, 0) := by
    rw [← hjs, ← hx3]; congr 1; simp [ByteArray.data_append]
  have hJs : (s ++ (⟨#[10]⟩ : ByteArray) ++ t).size ≤ 100000 := by
    rw [ByteArray.size_append, ByteArray.size_append]; have e1 : (⟨#[10]⟩ : ByteArray).size = 1 := rfl; omega
  have H3 := fun W (h : Below w.heap.size w W) => hid (lex_scan (s ++ (⟨#[10]⟩ : ByteArray) ++ t) W (hE.below h) hJs hJ)
  have Hnth := hid hnth
  have HJ := hid hj
  have HL := hid hL
  have hdr : ts.dropLast.length = n := by rw [List.length_dropLast]; omega
  have HD := hid hdr
  obtain ⟨i0, hi, hz0, hz1, hz2⟩ := info_parts infoT
  have HA := fun W (h : Below w.heap.size w W) => hid (awake18 W (hE.below h))
  have H1 := fun W (h : Below w.heap.size w W) => hid (lex_scan_any s W (hE.below h) hx1)
  have H2 := fun W (h : Below w.heap.size w W) => hid (lex_scan_any t W (hE.below h) hx2)
  have k0 := Below.refl w.heap.size w
  clear hx1 hx2 hx3 hls hlt hE hn hm hjs hnth hj hL hJ hJs hbd1 hbd2 hdr
  go_enter Tryd.func5, Tryd.ntmps5
  go_wp2_with fail
  refine (H1 _ k0).out.mono ?_
  rintro e w1 ⟨A, c, rfl, hTA, hcA, k1⟩
  rw [HN.out]
  clear H1
  go_wp2_with fail
  refine (H2 _ k1).out.mono ?_
  rintro e w2 ⟨A2, c2, rfl, hTB, hcB, b2⟩
  have k2 := k1.trans (b2.mono k1.size)
  rw [HM.out]
  clear H2 k1
  go_wp2_with fail
  refine (H3 _ k2).out.mono ?_
  rintro e w3 ⟨A3, c3, rfl, hTJ, hcJ, b3⟩
  replace hcJ : js.length ≤ c3 := hcJ
  have k3 := k2.trans (b3.mono k2.size)
  rw [HJ.out]
  clear H3
  have hcA1 : n + 1 ≤ c := by rw [← HN.out]; exact hcA
  obtain ⟨b, o, rfl⟩ := hTA.at (by rw [HN.out]; omega)
  obtain ⟨b', o', rfl⟩ := hTB.at (by rw [HM.out]; omega)
  obtain ⟨bj, oj, rfl⟩ := hTJ.at (by simp only; rw [HJ.out]; omega)
  have hTA3 := (hTA.below b2).below b3
  have hTB3 := hTB.below b3
  have hF1 : ∀ (j : Nat) (u : Value), (flatT ts.dropLast)[j]? = some u → w3.cell? ⟨b, o + j, none⟩ = some u := fun j u h => hTA3.flat j u (flatT_drop j u h)
  have hF2 : ∀ (j : Nat) (u : Value), (flatT us)[j]? = some u → w3.cell? ⟨b', o' + j, none⟩ = some u := hTB3.flat
  have HF1 := hid hF1
  have HF2 := hid hF2
  have HTJ := hid hTJ
  clear hTA hTB hcA b2 b3 k2 hcB hTA3 hTB3 hF1 hF2 hTJ
  go_wp2_with (at_builtin; refine wpList_append_grows _ rfl _ _ 23 rfl 37 i0 _ 6 64 Tryd.underlying23 hi hz0 hz1 hz2 rfl (by decide) (some ⟨b, o, none⟩) n n (flatT ts.dropLast) rfl (by intro h; cases h) (by rw [flatT_length, HD.out]) (by intro b0 h0; injection h0 with h0; subst h0; intro j u hj; rw [Addr.add_lit]; exact HF1.out j u hj) ⟨b', o', none⟩ (m + 1) c2 (flatT us) rfl (by rw [flatT_length, HM.out]) (by intro j u hj; rw [Addr.add_lit]; exact HF2.out j u hj) (flatT_one us) (by omega) (by unfold maxLen; omega) (by omega) ?_; intro v4 w4 hown4 hg4; have b4 : Below w3.heap.size w3 w4 := (Below.refl _ _).grown hg4 (Nat.le_refl _) (fun k hk => by cases hk); obtain ⟨A4, c4, rfl, hT4, hc4⟩ := own_toks (l := ts.dropLast ++ us) (by rw [HL.out, flatT_append]; exact hown4); rw [HL.out])
  have k4 := k3.trans (b4.mono k3.size)
  obtain ⟨bl, ol, rfl⟩ := hT4.at (by rw [HL.out]; omega)
  have HT4 := hid hT4
  have HJ4 := hid (HTJ.out.below b4)
  have hcl : n + (m + 1) ≤ c4 := by rw [← HL.out]; exact hc4
  have hcj : n + (m + 1) ≤ c3 := by rw [← HJ.out]; exact hcJ
  clear hown4 hg4 hc4 hcJ hT4 HTJ HF1 HF2 b4 k3 hi hz0 hz1 hz2
  go_loopw [91] (fun i wr => ∃ k : Nat, k ≤ n + (m + 1) ∧ i = .int .i64 k ∧ Below w4.heap.size w4 wr) (fun i _ => n + (m + 1) - (intOf i).toNat)
  case atStart => exact ⟨0, by omega, rfl, Below.refl _ _⟩
  case round =>
    obtain ⟨k, hk, rfl, hbel⟩ := hrel
    by_cases hlt : k < n + (m + 1)
    · obtain ⟨x, hx, hjx, hx0, hx1⟩ := Hnth.out k (by rw [HL.out]; exact hlt) (by rw [HJ.out]; exact hlt)
      obtain ⟨a0, a1, a2, a3, a4, a5⟩ := (HT4.out.below hbel).cells (by rw [HL.out]; exact hlt) hx
      obtain ⟨d0, d1, d2, d3, d4, d5⟩ := (HJ4.out.below hbel).cells (by rw [HJ.out]; exact hlt) hjx
      dsimp only at d0 d1 d2 d3 d4 d5
      have EQ := eq_val x.v x.v (x := true) (veq_iff.2 rfl)
      have GV := guardVal
      clear hx hjx
      by_cases hnk : n ≤ k
      · rw [if_pos hnk] at d5
        go_wp2_with fail
        have hb5 := below_one wr (.cells #[.int .i64 x.k, .string ⟨x.t.toArray⟩, .int .i64 x.v.k, .int .i64 x.v.n, .string x.v.s, .int .i64 x.a] 37)
        have hz5 := heap_alloc_new wr (.cells #[.int .i64 x.k, .string ⟨x.t.toArray⟩, .int .i64 x.v.k, .int .i64 x.v.n, .string x.v.s, .int .i64 x.a] 37)
        have bel5 := hbel.trans (hb5.mono hbel.size)
        replace d0 := cell_keep hb5 d0
        replace d1 := cell_keep hb5 d1
        replace d2 := cell_keep hb5 d2
        replace d3 := cell_keep hb5 d3
        replace d4 := cell_keep hb5 d4
        replace d5 := cell_keep hb5 d5
        replace a0 := cell_res hz5 0
        replace a1 := cell_res hz5 1
        replace a2 := cell_res hz5 2
        replace a3 := cell_res hz5 3
        replace a4 := cell_res hz5 4
        replace a5 := cell_res hz5 5
        clear hb5 hz5 hbel
        generalize wr.alloc (.cells #[.int .i64 x.k, .string ⟨x.t.toArray⟩, .int .i64 x.v.k, .int .i64 x.v.n, .string x.v.s, .int .i64 x.a] 37) = w5 at *
        go_quiet (fail)
        go_wp2
        go_roundw
        case rel => exact ⟨k + 1, by omega, by go_num, below_drewN bel5 _⟩
        case measure => simp [intOf]; omega
      · rw [if_neg hnk] at d5
        go_wp2_with fail
        have hb5 := below_one wr (.cells #[.int .i64 x.k, .string ⟨x.t.toArray⟩, .int .i64 x.v.k, .int .i64 x.v.n, .string x.v.s, .int .i64 x.a] 37)
        have hz5 := heap_alloc_new wr (.cells #[.int .i64 x.k, .string ⟨x.t.toArray⟩, .int .i64 x.v.k, .int .i64 x.v.n, .string x.v.s, .int .i64 x.a] 37)
        have bel5 := hbel.trans (hb5.mono hbel.size)
        replace d0 := cell_keep hb5 d0
        replace d1 := cell_keep hb5 d1
        replace d2 := cell_keep hb5 d2
        replace d3 := cell_keep hb5 d3
        replace d4 := cell_keep hb5 d4
        replace d5 := cell_keep hb5 d5
        replace a0 := cell_res hz5 0
        replace a1 := cell_res hz5 1
        replace a2 := cell_res hz5 2
        replace a3 := cell_res hz5 3
        replace a4 := cell_res hz5 4
        replace a5 := cell_res hz5 5
        clear hb5 hz5 hbel
        generalize wr.alloc (.cells #[.int .i64 x.k, .string ⟨x.t.toArray⟩, .int .i64 x.v.k, .int .i64 x.v.n, .string x.v.s, .int .i64 x.a] 37) = w5 at *
        go_quiet (fail)
        go_wp2
        go_roundw
        case rel => exact ⟨k + 1, by omega, by go_num, below_drewN bel5 _⟩
        case measure => simp [intOf]; omega
    · have hkn : k = n + (m + 1) := by omega
      have k5 := k4.trans (hbel.mono k4.size)
      subst hkn
      clear hbel HT4 HJ4 Hnth
      go_wp2_with fail
      refine (HA _ k5).out.mono ?_
      rintro e w6 ⟨rfl, b6⟩
      have k6 := k5.trans (b6.mono k5.size)
      clear HA
      go_wp2
      go_ret
      exact ⟨rfl, k6⟩

theorem law_ljoins (s t : ByteArray) (w : World) (hE : EnvL w) :
    Calls Tryd.prog 5 #[.string s, .string t] w fun e w' => e = .returned (.bool true) ∧ Below w.heap.size w w' := by
  obtain ⟨⟨ts, q1, e1⟩, hx1⟩ : ∃ x, scanL s.data.toList = x := ⟨_, rfl⟩
  obtain ⟨⟨us, q2, e2⟩, hx2⟩ : ∃ x, scanL t.data.toList = x := ⟨_, rfl⟩
  by_cases h1 : e1 = 0
  · subst h1
    by_cases h2 : e2 = 0
    · subst h2
      have h3 := (scanL_ok hx1).2.2
      have h4 := (scanL_ok hx2).2.2
      have hls : s.data.toList.length = s.size := by simp
      have hlt : t.data.toList.length = t.size := by simp
      by_cases hb : 1000 < s.size + t.size
      · exact lj_big s t (by omega) (by omega) w hE hx1 hx2 hb
      · exact lj_main s t (by omega) (by omega) w hE hx1 hx2 (by omega)
    · exact lj_err2 s t w hE hx1 hx2 h2
  · exact lj_err1 s t w hE hx1 hx2 h1
end Go.Proofs.YtemihmehppbgmaaDoor
