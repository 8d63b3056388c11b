/-
  WALK: ordinallaw18.LexerCovers.
-/
import Derived.Test.YtemihmehppbgmaaDoorAwake18
import Derived.Test.YtemihmehppbgmaaDoorLAny
import Derived.Test.YtemihmehppbgmaaDoorKit3
import Derived.Test.YtemihmehppbgmaaDoorText
import Derived.Test.YtemihmehppbgmaaDoorShelf4
import Derived.Lib.SlTrimSet
namespace Go.Proofs.YtemihmehppbgmaaDoor
open Go.RowKit

theorem dropWhile_all {p : UInt8 → Bool} : ∀ (l : List UInt8), (∀ c ∈ l, p c = true) → l.dropWhile p = []
  | [], _ => rfl
  | c :: l, h => by rw [List.dropWhile_cons, if_pos (h c (by simp)), dropWhile_all l fun x hx => h x (by simp [hx])]
theorem wht_cut {c : UInt8} (h : whtB c = true) : ([32, 9, 13, 10] : List UInt8).contains c = true := by
  have key : ∀ i : Fin 256, whtB (UInt8.ofNat i.val) = true → ([32, 9, 13, 10] : List UInt8).contains (UInt8.ofNat i.val) = true := by decide +kernel
  have := key ⟨c.toNat, c.toNat_lt⟩
  simp only [UInt8.ofNat_toNat] at this
  exact this h
theorem trim_white {l : List UInt8} (h : ∀ c ∈ l, whtB c = true) : Lib.trimS l [32, 9, 13, 10] = [] := by
  unfold Lib.trimS Lib.trimRightS
  rw [dropWhile_all l.reverse fun c hc => wht_cut (h c (List.mem_reverse.1 hc))]
  rfl
theorem trim_call (B : ByteArray) (hB : ∀ c ∈ B.data.toList, whtB c = true) (hs : B.size ≤ 100000) (w : World) :
    Calls Tryd.prog 20 #[.string B, .string ⟨#[32, 9, 13, 10]⟩] w fun e w' => e = .returned (.string ⟨#[]⟩) ∧ Below w.heap.size w w' := by
  have h := Tryd.strings_Trim_laid B ⟨#[32, 9, 13, 10]⟩ w (by omega) (by decide) (ascii_of_all (by decide))
  have e : (⟨#[32, 9, 13, 10]⟩ : ByteArray).data.toList = [32, 9, 13, 10] := rfl
  rw [e, trim_white hB] at h
  exact h
theorem piece2 (s : ByteArray) (a b : Nat) : (s.extract a b).data.toList = (s.data.toList.drop a).take (b - a) := by
  simp only [ByteArray.data_extract, Array.toList_extract, List.extract]
theorem value_textX (v : V) (w : World) (hn : I64 v.n) (hs : v.s.size ≤ 24) (ht : Tab w) {X : ByteArray} (hX : textL v = X.data.toList) :
    Calls Tryd.prog 15 #[.agg #[.int .i64 v.k, .int .i64 v.n, .string v.s]] w fun e w' => e = .returned (.string X) ∧ Below w.heap.size w w' := by
  have h := value_text v w hn (by omega) ht hX
  rw [arr_back] at h
  exact h
/-- One token's place. -/
theorem cov_step {s : ByteArray} {E : Nat} {t : Tok} {ts : List Tok} (h : Cov s.data.toList E (t :: ts)) (_hE : E ≤ s.size) : ∃ (p : Nat) (X : ByteArray), t.a = p ∧ X = ⟨t.t.toArray⟩ ∧ E ≤ p ∧ p + X.size ≤ s.size ∧ s.extract p (p + X.size) = X ∧ (∀ c ∈ (s.extract E p).data.toList, whtB c = true)
    ∧ Cov s.data.toList (p + X.size) ts
    ∧ ((t.k = 0 ∧ ts = [] ∧ X.toList.isEmpty = true ∧ t.v = V0) ∨ (t.k ≠ 0 ∧ ts ≠ [] ∧ X.toList.isEmpty = false ∧ ((t.k = 2 ∨ t.k = 3) ∧ textL t.v = X.data.toList ∧ I64 t.v.n ∧ t.v.s.size ≤ 24 ∨ t.k ≠ 2 ∧ t.k ≠ 3 ∧ t.v = V0))) := by
  obtain ⟨p, ha, h1, h2, h3, h4, h5, h6, h7, h8⟩ := h
  have hl : s.data.toList.length = s.size := by simp
  have hX : (⟨t.t.toArray⟩ : ByteArray).size = t.t.length := by simp [ByteArray.size]
  have hd : (⟨t.t.toArray⟩ : ByteArray).data.toList = t.t := by simp
  rw [hl] at h2
  refine ⟨p, ⟨t.t.toArray⟩, ha, rfl, h1, by rw [hX]; exact h2, ?_, ?_, by rw [hX]; exact h8, ?_⟩
  · refine ByteArray.ext (Array.toList_inj.1 ?_)
    rw [hX, piece2, show p + t.t.length - p = t.t.length by omega, h3]
  · intro c hc
    rw [piece2] at hc
    exact h4 c hc
  · rw [Lib.toList_data, hd]
    by_cases hk : t.k = 0
    · left
      refine ⟨hk, h5.1 hk, by rw [h6.2 hk]; rfl, ?_⟩
      rcases h7 with ⟨h | h, _⟩ | ⟨_, h⟩
      · omega
      · omega
      · exact h
    · right
      have hne : t.t ≠ [] := fun h => hk (h6.1 h)
      refine ⟨hk, fun h => hk (h5.2 h), by simpa using hne, ?_⟩
      rcases h7 with ⟨h, hp⟩ | ⟨h, hv⟩
      · left
        obtain ⟨_, g1, g2, g3⟩ := text_parse hp
        exact ⟨h, g1, g2, g3⟩
      · right
        exact ⟨fun e => h (.inl e), fun e => h (.inr e), hv⟩
theorem cov_end {s : ByteArray} {E : Nat} (h : Cov s.data.toList E []) : E = s.size := by
  have : s.data.toList.length = s.size := by simp
  rw [← this]; exact h

set_option maxRecDepth 100000 in
set_option maxHeartbeats 4000000 in
theorem lc_err (s : ByteArray) (w : World) (hE : EnvL w) {ts : List Tok} {q e : Int} (hx : scanL s.data.toList = (ts, q, e)) (he : e ≠ 0) :
    Calls Tryd.prog 9 #[.string s] w fun e w' => e = .returned (.bool true) ∧ Below w.heap.size w w' := by
  obtain rfl := scanL_err hx he
  have be : (e != 0) = true := by simpa using he
  have HA := fun W (h : Below w.heap.size w W) => hid (awake18 W (hE.below h))
  have H1 := fun W (h : Below w.heap.size w W) => hid (lex_scan_any s W (hE.below h) hx)
  have k0 := Below.refl w.heap.size w
  clear hE hx he
  by_cases hb : 1000 < s.size
  · go_enter Tryd.func9, Tryd.ntmps9
    go_wp2_with fail
    refine (H1 _ k0).out.mono ?_
    rintro e9 w1 ⟨A, c, rfl, hTA, hcA, k1⟩
    clear H1 hTA hcA
    go_wp2_with fail
    refine (HA _ k1).out.mono ?_
    rintro e9 w3 ⟨rfl, b3⟩
    have k3 := k1.trans (b3.mono k1.size)
    clear HA
    go_wp2
    go_ret
    exact ⟨rfl, k3⟩
  · go_enter Tryd.func9, Tryd.ntmps9
    go_wp2_with fail
    refine (H1 _ k0).out.mono ?_
    rintro e9 w1 ⟨A, c, rfl, hTA, hcA, k1⟩
    clear H1 hTA hcA
    go_wp2_with fail
    refine (HA _ k1).out.mono ?_
    rintro e9 w3 ⟨rfl, b3⟩
    have k3 := k1.trans (b3.mono k1.size)
    clear HA
    go_wp2
    go_ret
    exact ⟨rfl, k3⟩

set_option maxRecDepth 100000 in
set_option maxHeartbeats 4000000 in
theorem lc_big (s : ByteArray) (w : World) (hE : EnvL w) {ts : List Tok} {q : Int} (hx : scanL s.data.toList = (ts, q, 0)) (hb : 1000 < s.size) :
    Calls Tryd.prog 9 #[.string s] w fun e w' => e = .returned (.bool true) ∧ Below w.heap.size w w' := by
  obtain ⟨n, hn, _⟩ := ok_ne hx
  have HN := hid hn
  have HA := fun W (h : Below w.heap.size w W) => hid (awake18 W (hE.below h))
  have H1 := fun W (h : Below w.heap.size w W) => hid (lex_scan_any s W (hE.below h) hx)
  have k0 := Below.refl w.heap.size w
  clear hE hx hn
  go_enter Tryd.func9, Tryd.ntmps9
  go_wp2_with fail
  refine (H1 _ k0).out.mono ?_
  rintro e9 w1 ⟨A, c, rfl, hTA, hcA, k1⟩
  rw [HN.out]
  clear H1 hTA hcA
  go_wp2_with fail
  refine (HA _ k1).out.mono ?_
  rintro e9 w3 ⟨rfl, b3⟩
  have k3 := k1.trans (b3.mono k1.size)
  clear HA
  go_wp2
  go_ret
  exact ⟨rfl, k3⟩

set_option maxRecDepth 100000 in
set_option maxHeartbeats 4000000 in
theorem lc_main (s : ByteArray) (w : World) (hE : EnvL w) {ts : List Tok} {q : Int} (hx : scanL s.data.toList = (ts, q, 0)) (hb : s.size ≤ 1000) :
    Calls Tryd.prog 9 #[.string s] w fun e w' => e = .returned (.bool true) ∧ Below w.heap.size w w' := by
  obtain ⟨n, hn, hnl⟩ := ok_ne hx
  have hcov : Cov s.data.toList 0 (ts.drop 0) := (scanL_ok hx).1.covers 0 0 rfl rfl (by omega) (by omega) (by simp)
  have HN := hid hn
  have HC := hid hcov
  have hls : s.data.toList.length = s.size := by simp
  rw [hls] at hnl
  have HE := hid hE
  have HA := fun W (h : Below w.heap.size w W) => hid (awake18 W (hE.below h))
  have H1 := fun W (h : Below w.heap.size w W) => hid (lex_scan_any s W (hE.below h) hx)
  have k0 := Below.refl w.heap.size w
  clear hE hx hn hcov hls
  go_enter Tryd.func9, Tryd.ntmps9
  go_wp2_with fail
  refine (H1 _ k0).out.mono ?_
  rintro e9 w1 ⟨A, c, rfl, hTA, hcA, k1⟩
  rw [HN.out]
  replace hcA : ts.length ≤ c := hcA
  rw [HN.out] at hcA
  obtain ⟨b, o, rfl⟩ := hTA.at (by rw [HN.out]; omega)
  have HTA := hid hTA
  clear H1 hTA
  go_wp2_with fail
  go_loopw [34, 6] (fun i z wr => ∃ (k E : Nat), k ≤ n + 1 ∧ E ≤ s.size ∧ i = .int .i64 k ∧ z = .int .i64 E ∧ Hid (Cov s.data.toList E (ts.drop k)) ∧ Below w1.heap.size w1 wr) (fun i _ _ => n + 1 - (intOf i).toNat)
  case atStart => exact ⟨0, 0, by omega, by omega, rfl, rfl, HC, Below.refl _ _⟩
  case round =>
    obtain ⟨k, E, hk, hEs, rfl, rfl, HK, hbel⟩ := hrel
    clear HC
    by_cases hlt : k < n + 1
    · have hlt' : k < ts.length := by rw [HN.out]; exact hlt
      obtain ⟨x, hx⟩ : ∃ x, ts[k] = x := ⟨_, rfl⟩
      have hdr : ts.drop k = x :: ts.drop (k + 1) := by rw [← hx]; exact List.drop_eq_getElem_cons hlt'
      have hlast : ts.drop (k + 1) = [] ↔ k = n := by
        rw [List.drop_eq_nil_iff, HN.out]; omega
      have hcv := HK.out
      rw [hdr] at hcv
      obtain ⟨a0, a1, a2, a3, a4, a5⟩ := (HTA.out.below hbel).cells hlt' hx
      obtain ⟨p, X, hxa, hX, h1, h2, h3, h4, h5, h6⟩ := cov_step hcv hEs
      rw [hxa] at a5
      rw [← hX] at a1
      have HC2 := hid h5
      have H2 := fun W => hid (trim_call (s.extract E p) h4 (by simp; omega) W)
      have HZ := hid h3
      clear hdr hcv hx h4 h5 hxa hX HK h3
      have hpE : (E : Int) ≤ (p : Int) := by omega
      have b1 : decide ((p : Int) < (E : Int)) = false := by rw [decide_eq_false_iff_not]; omega
      have b2 : decide ((s.size : Int) < (p : Int) + X.size) = false := by rw [decide_eq_false_iff_not]; omega
      have b3 : decide (p < E) = false := by rw [decide_eq_false_iff_not]; omega
      have b4 : decide (s.size < p + X.size) = false := by rw [decide_eq_false_iff_not]; omega
      have hp1 : (p : Int) ≤ (p : Int) + X.size := by omega
      have hp2 : (p : Int) + X.size ≤ s.size := by omega
      have hp3 : (p : Int) ≤ s.size := by omega
      have eN : ((p : Int) + X.size).toNat = p + X.size := by omega
      have hb5 := below_one wr (.cells #[.int .i64 x.k, .string X, .int .i64 x.v.k, .int .i64 x.v.n, .string x.v.s, .int .i64 p] 37)
      have hz5 := heap_alloc_new wr (.cells #[.int .i64 x.k, .string X, .int .i64 x.v.k, .int .i64 x.v.n, .string x.v.s, .int .i64 p] 37)
      have bel5 := hbel.trans (hb5.mono hbel.size)
      have k5 := k1.trans (bel5.mono k1.size)
      have hE5 := hid (HE.out.below k5).env.tab
      rcases h6 with ⟨g1, g2, g3, gv⟩ | ⟨g1, g2, g3, ⟨g4 | g4, g6, g7, g8⟩ | ⟨g4, g5, gv⟩⟩
      · obtain ⟨xk, xt, xv, xa⟩ := x
        dsimp only at *
        subst gv
        have hkn : k = n := hlast.1 g2
        have bk0 : (xk == 0) = true := by rw [g1]; rfl
        have bk1 : ((k : Int) == (n : Int)) = true := by rw [hkn]; simp
        have bk2 : ((k : Int) == (n : Int) + 1 - 1) = true := by rw [beq_iff_eq]; omega
        have bl2 : (xk == 2) = false := by rw [g1]; rfl
        have bl3 : (xk == 3) = false := by rw [g1]; rfl
        have hZ := HZ.out
        clear g1 g2 hlast hkn HZ
        go_wp2_with fail
        replace a0 := cell_res hz5 0
        replace a1 := cell_res hz5 1
        replace a2 := cell_res hz5 2
        replace a3 := cell_res hz5 3
        replace a4 := cell_res hz5 4
        replace a5 := cell_res hz5 5
        clear hb5 hz5
        generalize wr.alloc (.cells #[.int .i64 xk, .string X, .int .i64 V0.k, .int .i64 V0.n, .string V0.s, .int .i64 p] 37) = w5 at *
        have f0 := fun p : BelowBy w5 => by_cell a0 p
        have f1 := fun p : BelowBy w5 => by_cell a1 p
        have f2 := fun p : BelowBy w5 => by_cell a2 p
        have f3 := fun p : BelowBy w5 => by_cell a3 p
        have f4 := fun p : BelowBy w5 => by_cell a4 p
        have f5 := fun p : BelowBy w5 => by_cell a5 p
        have H3 := fun p : BelowBy w5 => H2 p.to
        clear H2
        refine wp_region_below (by kernel_rfl) (by kernel_rfl) ?_
        repeat (go_big_quiet_step (first | with_reducible exact calls_by (H3 _).out))
        refine wpQuiet_nil ?_
        rintro wq ⟨⟨wqx, kq⟩, rfl⟩
        have bel6 := bel5.trans (kq.mono bel5.size)
        replace a0 := cell_keep kq a0
        replace a1 := cell_keep kq a1
        replace a2 := cell_keep kq a2
        replace a3 := cell_keep kq a3
        replace a4 := cell_keep kq a4
        replace a5 := cell_keep kq a5
        clear f0 f1 f2 f3 f4 f5 H3 hZ
        have f0 := fun p : BelowBy wq => by_cell a0 p
        have f1 := fun p : BelowBy wq => by_cell a1 p
        have f2 := fun p : BelowBy wq => by_cell a2 p
        have f3 := fun p : BelowBy wq => by_cell a3 p
        have f4 := fun p : BelowBy wq => by_cell a4 p
        have f5 := fun p : BelowBy wq => by_cell a5 p
        have EQ := eq_val3 0 0 ⟨#[]⟩ 0 0 ⟨#[]⟩ (x := true) (veq_iff.2 rfl)
        have EQ2 := eq_val3 V0.k V0.n V0.s 0 0 ⟨#[]⟩ (x := true) (veq_iff.2 rfl)
        have GV := guardVal
        clear hE5 k5 bel5
        go_wp2_with fail
        refine wp_region_below (by kernel_rfl) (by kernel_rfl) ?_
        repeat (go_big_quiet_step (fail))
        refine wpQuiet_nil ?_
        rintro wq2 ⟨⟨wqx2, kq2⟩, rfl⟩
        go_wp2
        go_roundw
        case rel => exact ⟨k + 1, p + X.size, by omega, by omega, by go_num, by go_num, HC2, bel6.trans (kq2.mono bel6.size)⟩
        case measure => simp [intOf]; omega
      · have hkn : k ≠ n := fun h => g2 (hlast.2 h)
        have bk0 : (x.k == 0) = false := by rw [beq_eq_false_iff_ne]; exact g1
        have bk1 : ((k : Int) == (n : Int)) = false := by rw [beq_eq_false_iff_ne]; omega
        have bk2 : ((k : Int) == (n : Int) + 1 - 1) = false := by rw [beq_eq_false_iff_ne]; omega
        have bl2 : (x.k == 2) = true := by rw [g4]; rfl
        have bl3 : (x.k == 3) = false := by rw [g4]; rfl
        have hZ := HZ.out
        clear g1 g2 hlast hkn HZ
        clear g4
        have GT := hid g6
        clear g6
        go_wp2_with fail
        replace a0 := cell_res hz5 0
        replace a1 := cell_res hz5 1
        replace a2 := cell_res hz5 2
        replace a3 := cell_res hz5 3
        replace a4 := cell_res hz5 4
        replace a5 := cell_res hz5 5
        clear hb5 hz5
        generalize wr.alloc (.cells #[.int .i64 x.k, .string X, .int .i64 x.v.k, .int .i64 x.v.n, .string x.v.s, .int .i64 p] 37) = w5 at *
        have f0 := fun p : BelowBy w5 => by_cell a0 p
        have f1 := fun p : BelowBy w5 => by_cell a1 p
        have f2 := fun p : BelowBy w5 => by_cell a2 p
        have f3 := fun p : BelowBy w5 => by_cell a3 p
        have f4 := fun p : BelowBy w5 => by_cell a4 p
        have f5 := fun p : BelowBy w5 => by_cell a5 p
        have H3 := fun p : BelowBy w5 => H2 p.to
        clear H2
        refine wp_region_below (by kernel_rfl) (by kernel_rfl) ?_
        repeat (go_big_quiet_step (first | with_reducible exact calls_by (H3 _).out))
        refine wpQuiet_nil ?_
        rintro wq ⟨⟨wqx, kq⟩, rfl⟩
        have bel6 := bel5.trans (kq.mono bel5.size)
        replace a0 := cell_keep kq a0
        replace a1 := cell_keep kq a1
        replace a2 := cell_keep kq a2
        replace a3 := cell_keep kq a3
        replace a4 := cell_keep kq a4
        replace a5 := cell_keep kq a5
        clear f0 f1 f2 f3 f4 f5 H3 hZ
        have f0 := fun p : BelowBy wq => by_cell a0 p
        have f1 := fun p : BelowBy wq => by_cell a1 p
        have f2 := fun p : BelowBy wq => by_cell a2 p
        have f3 := fun p : BelowBy wq => by_cell a3 p
        have f4 := fun p : BelowBy wq => by_cell a4 p
        have f5 := fun p : BelowBy wq => by_cell a5 p
        have H4 := fun p : BelowBy wq => hid (value_textX x.v p.to g7 g8 ((hE5.out.below kq).below p.le) GT.out)
        clear hE5 k5 bel5
        go_wp2_with fail
        refine wp_region_below (by kernel_rfl) (by kernel_rfl) ?_
        repeat (go_big_quiet_step (first | with_reducible exact calls_by (H4 _).out))
        refine wpQuiet_nil ?_
        rintro wq2 ⟨⟨wqx2, kq2⟩, rfl⟩
        go_wp2
        go_roundw
        case rel => exact ⟨k + 1, p + X.size, by omega, by omega, by go_num, by go_num, HC2, bel6.trans (kq2.mono bel6.size)⟩
        case measure => simp [intOf]; omega
      · have hkn : k ≠ n := fun h => g2 (hlast.2 h)
        have bk0 : (x.k == 0) = false := by rw [beq_eq_false_iff_ne]; exact g1
        have bk1 : ((k : Int) == (n : Int)) = false := by rw [beq_eq_false_iff_ne]; omega
        have bk2 : ((k : Int) == (n : Int) + 1 - 1) = false := by rw [beq_eq_false_iff_ne]; omega
        have bl2 : (x.k == 2) = false := by rw [g4]; rfl
        have bl3 : (x.k == 3) = true := by rw [g4]; rfl
        have hZ := HZ.out
        clear g1 g2 hlast hkn HZ
        clear g4
        have GT := hid g6
        clear g6
        go_wp2_with fail
        replace a0 := cell_res hz5 0
        replace a1 := cell_res hz5 1
        replace a2 := cell_res hz5 2
        replace a3 := cell_res hz5 3
        replace a4 := cell_res hz5 4
        replace a5 := cell_res hz5 5
        clear hb5 hz5
        generalize wr.alloc (.cells #[.int .i64 x.k, .string X, .int .i64 x.v.k, .int .i64 x.v.n, .string x.v.s, .int .i64 p] 37) = w5 at *
        have f0 := fun p : BelowBy w5 => by_cell a0 p
        have f1 := fun p : BelowBy w5 => by_cell a1 p
        have f2 := fun p : BelowBy w5 => by_cell a2 p
        have f3 := fun p : BelowBy w5 => by_cell a3 p
        have f4 := fun p : BelowBy w5 => by_cell a4 p
        have f5 := fun p : BelowBy w5 => by_cell a5 p
        have H3 := fun p : BelowBy w5 => H2 p.to
        clear H2
        refine wp_region_below (by kernel_rfl) (by kernel_rfl) ?_
        repeat (go_big_quiet_step (first | with_reducible exact calls_by (H3 _).out))
        refine wpQuiet_nil ?_
        rintro wq ⟨⟨wqx, kq⟩, rfl⟩
        have bel6 := bel5.trans (kq.mono bel5.size)
        replace a0 := cell_keep kq a0
        replace a1 := cell_keep kq a1
        replace a2 := cell_keep kq a2
        replace a3 := cell_keep kq a3
        replace a4 := cell_keep kq a4
        replace a5 := cell_keep kq a5
        clear f0 f1 f2 f3 f4 f5 H3 hZ
        have f0 := fun p : BelowBy wq => by_cell a0 p
        have f1 := fun p : BelowBy wq => by_cell a1 p
        have f2 := fun p : BelowBy wq => by_cell a2 p
        have f3 := fun p : BelowBy wq => by_cell a3 p
        have f4 := fun p : BelowBy wq => by_cell a4 p
        have f5 := fun p : BelowBy wq => by_cell a5 p
        have H4 := fun p : BelowBy wq => hid (value_textX x.v p.to g7 g8 ((hE5.out.below kq).below p.le) GT.out)
        clear hE5 k5 bel5
        go_wp2_with fail
        refine wp_region_below (by kernel_rfl) (by kernel_rfl) ?_
        repeat (go_big_quiet_step (first | with_reducible exact calls_by (H4 _).out))
        refine wpQuiet_nil ?_
        rintro wq2 ⟨⟨wqx2, kq2⟩, rfl⟩
        go_wp2
        go_roundw
        case rel => exact ⟨k + 1, p + X.size, by omega, by omega, by go_num, by go_num, HC2, bel6.trans (kq2.mono bel6.size)⟩
        case measure => simp [intOf]; omega
      · obtain ⟨xk, xt, xv, xa⟩ := x
        dsimp only at *
        subst gv
        have hkn : k ≠ n := fun h => g2 (hlast.2 h)
        have bk0 : (xk == 0) = false := by rw [beq_eq_false_iff_ne]; exact g1
        have bk1 : ((k : Int) == (n : Int)) = false := by rw [beq_eq_false_iff_ne]; omega
        have bk2 : ((k : Int) == (n : Int) + 1 - 1) = false := by rw [beq_eq_false_iff_ne]; omega
        have bl2 : (xk == 2) = false := by rw [beq_eq_false_iff_ne]; exact g4
        have bl3 : (xk == 3) = false := by rw [beq_eq_false_iff_ne]; exact g5
        have hZ := HZ.out
        clear g1 g2 hlast hkn HZ
        clear g4 g5
        go_wp2_with fail
        replace a0 := cell_res hz5 0
        replace a1 := cell_res hz5 1
        replace a2 := cell_res hz5 2
        replace a3 := cell_res hz5 3
        replace a4 := cell_res hz5 4
        replace a5 := cell_res hz5 5
        clear hb5 hz5
        generalize wr.alloc (.cells #[.int .i64 xk, .string X, .int .i64 V0.k, .int .i64 V0.n, .string V0.s, .int .i64 p] 37) = w5 at *
        have f0 := fun p : BelowBy w5 => by_cell a0 p
        have f1 := fun p : BelowBy w5 => by_cell a1 p
        have f2 := fun p : BelowBy w5 => by_cell a2 p
        have f3 := fun p : BelowBy w5 => by_cell a3 p
        have f4 := fun p : BelowBy w5 => by_cell a4 p
        have f5 := fun p : BelowBy w5 => by_cell a5 p
        have H3 := fun p : BelowBy w5 => H2 p.to
        clear H2
        refine wp_region_below (by kernel_rfl) (by kernel_rfl) ?_
        repeat (go_big_quiet_step (first | with_reducible exact calls_by (H3 _).out))
        refine wpQuiet_nil ?_
        rintro wq ⟨⟨wqx, kq⟩, rfl⟩
        have bel6 := bel5.trans (kq.mono bel5.size)
        replace a0 := cell_keep kq a0
        replace a1 := cell_keep kq a1
        replace a2 := cell_keep kq a2
        replace a3 := cell_keep kq a3
        replace a4 := cell_keep kq a4
        replace a5 := cell_keep kq a5
        clear f0 f1 f2 f3 f4 f5 H3 hZ
        have f0 := fun p : BelowBy wq => by_cell a0 p
        have f1 := fun p : BelowBy wq => by_cell a1 p
        have f2 := fun p : BelowBy wq => by_cell a2 p
        have f3 := fun p : BelowBy wq => by_cell a3 p
        have f4 := fun p : BelowBy wq => by_cell a4 p
        have f5 := fun p : BelowBy wq => by_cell a5 p
        have EQ := eq_val3 0 0 ⟨#[]⟩ 0 0 ⟨#[]⟩ (x := true) (veq_iff.2 rfl)
        have EQ2 := eq_val3 V0.k V0.n V0.s 0 0 ⟨#[]⟩ (x := true) (veq_iff.2 rfl)
        have GV := guardVal
        clear hE5 k5 bel5
        go_wp2_with fail
        refine wp_region_below (by kernel_rfl) (by kernel_rfl) ?_
        repeat (go_big_quiet_step (fail))
        refine wpQuiet_nil ?_
        rintro wq2 ⟨⟨wqx2, kq2⟩, rfl⟩
        go_wp2
        go_roundw
        case rel => exact ⟨k + 1, p + X.size, by omega, by omega, by go_num, by go_num, HC2, bel6.trans (kq2.mono bel6.size)⟩
        case measure => simp [intOf]; omega
    · have hkn : k = n + 1 := by omega
      have hcv := HK.out
      rw [List.drop_eq_nil_of_le (by rw [HN.out]; omega)] at hcv
      have hEe := cov_end hcv
      have k5 := k1.trans (hbel.mono k1.size)
      subst hkn
      subst hEe
      clear hbel HTA HK hcv
      go_wp2_with fail
      refine (HA _ k5).out.mono ?_
      rintro e9 w6 ⟨rfl, b6⟩
      have k6 := k5.trans (b6.mono k5.size)
      clear HA
      go_wp2
      go_ret
      exact ⟨rfl, k6⟩

theorem law_lcovers (s : ByteArray) (w : World) (hE : EnvL w) :
    Calls Tryd.prog 9 #[.string s] w fun e w' => e = .returned (.bool true) ∧ Below w.heap.size w w' := by
  obtain ⟨⟨ts, q, e⟩, hx⟩ : ∃ x, scanL s.data.toList = x := ⟨_, rfl⟩
  by_cases he : e = 0
  · subst he
    by_cases hb : 1000 < s.size
    · exact lc_big s w hE hx hb
    · exact lc_main s w hE hx (by omega)
  · exact lc_err s w hE hx he
end Go.Proofs.YtemihmehppbgmaaDoor
