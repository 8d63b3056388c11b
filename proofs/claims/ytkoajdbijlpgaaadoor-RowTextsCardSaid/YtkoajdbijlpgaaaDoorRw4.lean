/-
  WALK: the document's Parse of a row.
-/
import Derived.Test.YtkoajdbijlpgaaaDoorRw2
import Derived.Test.YtkoajdbijlpgaaaDoorRw5
import Derived.Test.YtkoajdbijlpgaaaDoorRef2
namespace Go.Proofs.YtkoajdbijlpgaaaDoor
open Go.RowKit

theorem allP_cons {x : List UInt8} {r : List (List UInt8)} {v : V} {q : Int} (hp : parseL x = (v, q)) : allP (x :: r) = if q ≠ 0 then none else (allP r).map (v :: ·) := by
  rw [allP, hp]
theorem glueP (acc : List V) (v : V) (o : Option (List V)) : (o.map (v :: ·)).map (acc ++ ·) = o.map ((acc ++ [v]) ++ ·) := by
  cases o with
  | none => rfl
  | some l => simp
theorem flat_snocR {w : World} {B : Nat} {e : TypeId} {u : Value} {l : List V} {v : V} (h : w.ownsRow B e 3 u (l.length + 1) (flat l ++ [.int .i64 v.k, .int .i64 v.n, .string v.s])) : w.ownsRow B e 3 u (l ++ [v]).length (flat (l ++ [v])) := by
  rw [List.length_append, flat_append]; exact h
theorem strs_cell {w : World} {B : Nat} {e : TypeId} {g n cap : Nat} {X : List (List UInt8)} (h : w.ownsRow B e 1 (.slice (some ⟨g, 0, none⟩) n cap) X.length (X.map strV')) {k : Nat} (hk : k < X.length) {y : List UInt8} (hy : X[k] = y) : w.cell? ⟨g, k, none⟩ = some (.string ⟨y.toArray⟩) := by
  have h2 := h
  rcases h.2 with ⟨h1, _⟩ | ⟨g', cap', cur, h1, _⟩
  · cases h1
  · injection h1 with e1 e2 e3
    subst e2 e3
    have := h2.cellAt k (by simpa using hk)
    rw [this, List.getElem?_map, List.getElem?_eq_getElem hk, hy]; rfl

theorem joinC_len : ∀ (ps : List (List UInt8)), ps.length ≤ (joinC ps).length + 1 ∧ ∀ x ∈ ps, x.length ≤ (joinC ps).length
  | [] => by simp [joinC]
  | [x] => by simp [joinC]
  | x :: y :: r => by
    obtain ⟨h1, h2⟩ := joinC_len (y :: r)
    rw [joinC]
    simp only [List.length_cons, List.length_append, List.length_nil] at *
    refine ⟨by omega, fun z hz => ?_⟩
    rcases List.mem_cons.1 hz with rfl | hz
    · omega
    · have := h2 z hz; omega
theorem split_bd (l : List UInt8) : (splitGo false false [] l).length ≤ l.length + 1 ∧ ∀ x ∈ splitGo false false [] l, x.length ≤ l.length := by
  have h := joinC_len (splitGo false false [] l)
  rw [splitGo_join _ l false false [] (Nat.le_refl _)] at h
  simpa using h

set_option maxRecDepth 100000 in
set_option maxHeartbeats 2000000 in
theorem refRow_parse (s : ByteArray) (w : World) (hs : s.size ≤ 100000) {x : Option (List V)} (hx : rowQ s.data.toList = x) :
    Calls Tryd.prog 56 #[.string s] w (RetRowE w x) := by
  obtain ⟨i0, hi, hz0, hz1, hz2⟩ := info_parts infoR
  have tl : ∀ B : ByteArray, B.toList = B.data.toList := fun B => Lib.toList_data _
  have hll : s.data.toList.length = s.size := by simp
  unfold rowQ at hx
  rw [hll] at hx
  by_cases h2 : s.size < 2
  · have hne : s.data.toList ≠ [40, 41] := by
      intro e; rw [e] at hll; simp at hll; omega
    rw [if_neg hne, if_pos (.inl h2)] at hx
    subst hx
    clear tl hll hne
    go_enter Tryd.func56, Tryd.ntmps56
    go_wp2
    go_ret2
    exact ⟨rfl, Below.refl _ _⟩
  · have hpos : 0 < s.size := by omega
    have hl1 : s.size - 1 < s.size := by omega
    have eix : ((s.size : Int) - 1).toNat = s.size - 1 := by omega
    have f0 := first_of hpos
    have f1 : s.data.toList.getD (s.size - 1) 0 = (s[s.size - 1]'hl1) := getD_of hl1
    by_cases h40 : s[0].toNat = 40
    · have b40 : ((s[0].toNat : Int) != 40) = false := by rw [bne_eq_false_iff_eq]; omega
      by_cases h41 : (s[s.size - 1]'hl1).toNat = 41
      · have b41 : (((s[s.size - 1]'hl1).toNat : Int) != 41) = false := by rw [bne_eq_false_iff_eq]; omega
        cases hb0 : (s.toList == ([40, 41] : List UInt8))
        · have hne : s.data.toList ≠ [40, 41] := by
            intro e
            rw [tl, e] at hb0
            revert hb0; decide
          rw [if_neg hne, f0, f1] at hx
          rw [if_neg (by rintro (h | h | h); exact h2 h; exact h (UInt8.toNat.inj h40); exact h (UInt8.toNat.inj h41))] at hx
          obtain ⟨D, hD⟩ : ∃ D : ByteArray, s.extract 1 (s.size - 1) = D := ⟨_, rfl⟩
          have hDl : (s.data.toList.drop 1).take (s.size - 2) = D.data.toList := by
            rw [← hD]; simp only [ByteArray.data_extract, Array.toList_extract, List.extract]; congr 1
          have hDs : D.size ≤ s.size := by rw [← hD]; simp; omega
          rw [hDl, ← roads] at hx
          obtain ⟨X, hX⟩ : ∃ X, splitGo false false [] D.data.toList = X := ⟨_, rfl⟩
          have hXb := split_bd D.data.toList
          have hDd : D.data.toList.length = D.size := by simp
          rw [hX, hDd] at hXb
          obtain ⟨N, hN⟩ : ∃ N, X.length = N + 1 := ⟨X.length - 1, by have := splitGo_ne false false [] D.data.toList; rw [hX] at this; have := List.length_pos_iff.2 this; omega⟩
          have hN2 : N ≤ 100000 := by omega
          have HXB := hid hXb.2
          have HN := hid hN
          rw [hX] at hx
          have H1 := fun W => hid (ref_split D W (by omega) hX)
          have HX : Hid ((allP (X.drop 0)).map ([] ++ ·) = x) := hid (by rw [← hx]; simp)
          clear hx hX hDl hll hXb hDd hN h40 h41 tl f0 f1 hne
          go_enter Tryd.func56, Tryd.ntmps56
          go_wp2_with fail
          refine (H1 _).out.mono ?_
          rintro e w1 ⟨u, rfl, hown, b1⟩
          have hown' := hown
          rw [HN.out] at hown'
          obtain ⟨g, cap, rfl, _, hcap⟩ := own_slice hown'
          have HO := hid hown
          clear hown hown' H1
          go_wp2_with fail
          go_loopw [4, 6] (fun u i wr => ∃ (k : Nat) (acc : List V), k ≤ N + 1 ∧ i = .int .i64 k ∧ acc.length ≤ k ∧ wr.ownsRow w1.heap.size 66 3 u acc.length (flat acc) ∧ Hid ((allP (X.drop k)).map (acc ++ ·) = x) ∧ Below w1.heap.size w1 wr) (fun _ i _ => N + 1 - (intOf i).toNat)
          case atStart => exact ⟨0, [], by omega, rfl, by simp, World.ownsRow_nil _ _ _ _, HX, Below.refl _ _⟩
          case round =>
            obtain ⟨k, acc, hk, rfl, hacc, hown, HK, hbel⟩ := hrel
            clear HX
            have hbelw := b1.trans (hbel.mono b1.size)
            by_cases hlt : k < N + 1
            · have hlt' : k < X.length := by rw [HN.out]; exact hlt
              obtain ⟨y, hy⟩ : ∃ y, X[k] = y := ⟨_, rfl⟩
              have c0 := strs_cell (own_below HO.out hbel) hlt' hy
              have hyl : y.length ≤ 100000 := by
                have := HXB.out y (hy ▸ List.getElem_mem hlt')
                omega
              have hdr : X.drop k = y :: X.drop (k + 1) := by rw [← hy]; exact List.drop_eq_getElem_cons hlt'
              obtain ⟨Y, hY⟩ : ∃ Y : ByteArray, Y = ⟨y.toArray⟩ := ⟨_, rfl⟩
              have hYl : Y.data.toList = y := by rw [hY]
              have hYs : Y.size ≤ 100000 := by rw [hY]; simpa [ByteArray.size] using hyl
              rw [← hY] at c0
              obtain ⟨⟨v, q⟩, hp⟩ : ∃ p, parseL y = p := ⟨_, rfl⟩
              have H2 := fun W => hid (ref_parse Y W hYs (x := (v, q)) (by rw [hYl]; exact hp))
              have hx := HK.out
              rw [hdr, allP_cons hp] at hx
              clear hdr hp hy hY hYl HK
              by_cases hq : q = 0
              · subst hq
                rw [if_neg (by simp)] at hx
                have HN2 : Hid ((allP (X.drop (k + 1))).map ((acc ++ [v]) ++ ·) = x) := hid ((glueP acc v _).symm.trans hx)
                clear hx
                go_wp2_with fail
                refine (H2 _).out.mono ?_
                rintro e w2 ⟨rfl, b2⟩
                have hbel1 := hbelw.trans (b2.mono hbelw.size)
                have hbelx := hbel.trans (b2.mono hbel.size)
                have hown1 := own_below hown b2
                have hbelA := hbel1.trans ((below_one w2 (.cells #[.int .i64 v.k, .int .i64 v.n, .string v.s] 66)).mono hbel1.size)
                have hbelY := hbelx.trans ((below_one w2 (.cells #[.int .i64 v.k, .int .i64 v.n, .string v.s] 66)).mono hbelx.size)
                have hownA := own_below hown1 (below_one w2 (.cells #[.int .i64 v.k, .int .i64 v.n, .string v.s] 66))
                clear H2 b2 hown
                go_wp2_with (at_builtin; refine wpList_append_new2 Tryd.underlying32 hi hz0 hz1 hz2 rfl (by decide) (by decide) rfl rfl rfl hownA rfl (by simp) rfl rfl (by omega) hbelY.size ?_; intro v2 w3 hown2 hg2)
                go_roundw
                case rel => exact ⟨k + 1, acc ++ [v], by omega, by go_num, by simp; omega, flat_snocR hown2, HN2, hbelY.trans (grown_below hownA hg2 hbelY.size)⟩
                case measure => simp [intOf]; omega
              · rw [if_pos hq] at hx
                subst hx
                have bq : (q != 0) = true := by simpa using hq
                clear hq
                go_wp2_with fail
                refine (H2 _).out.mono ?_
                rintro e w2 ⟨rfl, b2⟩
                have hbel1 := hbelw.trans (b2.mono hbelw.size)
                have hbelA := hbel1.trans ((below_one w2 (.cells #[.int .i64 v.k, .int .i64 v.n, .string v.s] 66)).mono hbel1.size)
                clear H2 b2 hown
                go_wp2
                go_ret2
                exact ⟨rfl, hbelA⟩
            · have hkn : k = N + 1 := by omega
              have hx := HK.out
              rw [List.drop_eq_nil_of_le (by rw [HN.out]; omega)] at hx
              have hx2 : x = some acc := by rw [← hx]; simp [allP]
              subst hx2
              obtain ⟨A2, c2, rfl, hR2, hc2⟩ := own_rowc hown
              clear HK hx hown
              go_wp2
              go_ret2
              exact ⟨A2, c2, rfl, hR2, hc2, hbelw⟩
        · have he : s.data.toList = [40, 41] := by
            have : s.toList = [40, 41] := by simpa using hb0
            rw [tl] at this
            exact this
          rw [if_pos he] at hx
          subst hx
          clear tl hll he h40 h41 f0 f1
          go_enter Tryd.func56, Tryd.ntmps56
          go_wp2
          go_ret2
          exact ⟨none, 0, rfl, RowAt.nil, by simp, Below.refl _ _⟩
      · have hne : s.data.toList ≠ [40, 41] := by
          intro e; rw [e] at f1; rw [e] at hll
          have e2 : s.size = 2 := by simpa using hll.symm
          have e3 : ([40, 41] : List UInt8).getD (s.size - 1) 0 = 41 := by rw [show s.size - 1 = 1 by omega]; rfl
          exact h41 (by rw [← f1, e3]; rfl)
        rw [if_neg hne, f0, f1] at hx
        rw [if_pos (.inr (.inr (fun e => h41 (congrArg UInt8.toNat e))))] at hx
        subst hx
        have b41 : (((s[s.size - 1]'hl1).toNat : Int) != 41) = true := by rw [bne_iff_ne]; omega
        clear tl hll hne h40 h41 f0 f1
        go_enter Tryd.func56, Tryd.ntmps56
        go_wp2
        go_ret2
        exact ⟨rfl, Below.refl _ _⟩
    · have hne : s.data.toList ≠ [40, 41] := by
        intro e; rw [e] at f0
        exact h40 (by rw [← f0]; rfl)
      rw [if_neg hne, f0, f1] at hx
      rw [if_pos (.inr (.inl (fun e => h40 (congrArg UInt8.toNat e))))] at hx
      subst hx
      have b40 : ((s[0].toNat : Int) != 40) = true := by rw [bne_iff_ne]; omega
      clear tl hll hne h40 f0 f1
      go_enter Tryd.func56, Tryd.ntmps56
      go_wp2
      go_ret2
      exact ⟨rfl, Below.refl _ _⟩
end Go.Proofs.YtkoajdbijlpgaaaDoor
