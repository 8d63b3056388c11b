/-
  WALK: row.Parse.
-/
import Derived.Test.YtkoajdbijlpgaaaDoorRw1
import Derived.Test.YtkoajdbijlpgaaaDoorRt4
import Derived.Test.YtkoajdbijlpgaaaDoorKit2
import Derived.Test.YtkoajdbijlpgaaaDoorRow2
import Derived.Test.YtkoajdbijlpgaaaDoorPint
namespace Go.Proofs.YtkoajdbijlpgaaaDoor
open Go.RowKit

/-- A call that returns a row of its own, or an error. -/
def RetRowE (w : World) (x : Option (List V)) (e : Ending) (w' : World) : Prop := match x with
  | some vs => ∃ A c, e = .returned (.tuple #[.slice A vs.length c, .int .i64 0]) ∧ RowAt w' A vs ∧ vs.length ≤ c ∧ Below w.heap.size w w'
  | none => e = .returned (.tuple #[.slice none 0 0, .int .i64 15]) ∧ Below w.heap.size w w'
/-- The row of a text. -/
def rowQ (l : List UInt8) : Option (List V) :=
  if l = [40, 41] then some [] else if l.length < 2 ∨ l.getD 0 0 ≠ 40 ∨ l.getD (l.length - 1) 0 ≠ 41 then none else rowP [] ((l.drop 1).take (l.length - 2))

theorem own_rowc {w : World} {B : Nat} {e : TypeId} {v : Value} {r : List V} (h : w.ownsRow B e 3 v r.length (flat r)) : ∃ A c, v = .slice A r.length c ∧ RowAt w A r ∧ r.length ≤ c := by
  obtain ⟨A, c, hv, hr⟩ := own_row h
  rcases h.2 with ⟨h1, h0⟩ | ⟨g, cap, cur, h1, _, _, hn, _⟩
  · rw [hv] at h1; injection h1 with _ _ h3
    exact ⟨A, c, hv, hr, by omega⟩
  · rw [hv] at h1; injection h1 with _ _ h3
    exact ⟨A, c, hv, hr, by omega⟩
theorem flat_snoc {w : World} {B : Nat} {e : TypeId} {u : Value} {l : List V} {v : V} (h : w.ownsRow B e 3 u (l.length + 1) (flat l ++ [.int .i64 v.k, .int .i64 v.n, .string v.s])) : w.ownsRow B e 3 u (l ++ [v]).length (flat (l ++ [v])) := by
  rw [List.length_append, flat_append]; exact h
theorem hasPre (s p : ByteArray) (w : World) {b : Bool} (h : p.data.toList.isPrefixOf s.data.toList = b) :
    Calls Tryd.prog 83 #[.string s, .string p] w fun e w' => e = .returned (.bool b) ∧ w = w' := by
  refine (Tryd.strings_HasPrefix s p w).mono fun e w' ⟨h1, h2⟩ => ⟨?_, h2.symm⟩
  rw [h1]
  exact ret_b h
theorem cut_list (D : ByteArray) (m : Nat) : (D.extract 0 m).data.toList = D.data.toList.take m := by
  simp [ByteArray.data_extract, Array.toList_extract, List.extract]

theorem rowP_bad {acc : List V} {l : List UInt8} {m : Nat} {v : V} {q : Int} (hm : litLen l = m) (hp : parseL (l.take m) = (v, q)) (hq : q ≠ 0) : rowP acc l = none := by
  rw [rowP, hm, hp, if_pos hq]
theorem rowP_end {acc : List V} {l : List UInt8} {m : Nat} {v : V} (hm : litLen l = m) (hp : parseL (l.take m) = (v, 0)) (h : l.drop m = []) : rowP acc l = some (acc ++ [v]) := by
  rw [rowP, hm, hp, if_neg (by simp), if_pos h]
theorem rowP_form {acc : List V} {l : List UInt8} {m : Nat} {v : V} (hm : litLen l = m) (hp : parseL (l.take m) = (v, 0)) (h : l.drop m ≠ []) (h2 : ([44, 32] : List UInt8).isPrefixOf (l.drop m) = false) : rowP acc l = none := by
  rw [rowP, hm, hp, if_neg (by simp), if_neg h, if_pos h2]
theorem rowP_more {acc : List V} {l : List UInt8} {m : Nat} {v : V} (hm : litLen l = m) (hp : parseL (l.take m) = (v, 0)) (h2 : ([44, 32] : List UInt8).isPrefixOf (l.drop m) = true) : rowP acc l = rowP (acc ++ [v]) ((l.drop m).drop 2) ∧ 2 ≤ (l.drop m).length := by
  have hl := (List.isPrefixOf_iff_prefix.1 h2).length_le
  have hl2 : 2 ≤ (l.drop m).length := hl
  have hne : l.drop m ≠ [] := by intro e; rw [e] at hl2; simp at hl2
  refine ⟨?_, hl2⟩
  rw [rowP, hm, hp, if_neg (by simp), if_neg hne, if_neg (by rw [h2]; simp), dif_neg (by omega)]

set_option maxRecDepth 100000 in
set_option maxHeartbeats 2000000 in
theorem row_parse (s : ByteArray) (w : World) (hs : s.size ≤ 100000) (hE : Env w) {x : Option (List V)} (hx : rowQ s.data.toList = x) :
    Calls Tryd.prog 54 #[.string s] w (RetRowE w x) := by
  obtain ⟨i0, hi, hz0, hz1, hz2⟩ := info_parts infoV
  have tl : ∀ B : ByteArray, B.toList = B.data.toList := fun B => Lib.toList_data _
  have hll : s.data.toList.length = s.size := by simp
  unfold rowQ at hx
  rw [hll] at hx
  cases hb0 : (s.toList == ([40, 41] : List UInt8))
  · have hne : s.data.toList ≠ [40, 41] := by
      intro e
      rw [tl, e] at hb0
      revert hb0; decide
    rw [if_neg hne] at hx
    clear hne
    by_cases h2 : s.size < 2
    · rw [if_pos (.inl h2)] at hx
      subst hx
      clear tl hll hE
      go_enter Tryd.func54, Tryd.ntmps54
      go_wp2
      go_ret2
      exact ⟨rfl, Below.refl _ _⟩
    · have hpos : 0 < s.size := by omega
      have hl1 : s.size - 1 < s.size := by omega
      have eix : ((s.size : Int) - 1).toNat = s.size - 1 := by omega
      rw [first_of hpos, getD_of hl1] at hx
      by_cases h40 : s[0].toNat = 40
      · have b40 : ((s[0].toNat : Int) != 40) = false := by rw [bne_eq_false_iff_eq]; omega
        by_cases h41 : (s[s.size - 1]'hl1).toNat = 41
        · rw [if_neg (by rintro (h | h | h); exact h2 h; exact h (UInt8.toNat.inj h40); exact h (UInt8.toNat.inj h41))] at hx
          have b41 : (((s[s.size - 1]'hl1).toNat : Int) != 41) = false := by rw [bne_eq_false_iff_eq]; omega
          obtain ⟨D, hD⟩ : ∃ D : ByteArray, s.extract 1 (s.size - 1) = D := ⟨_, rfl⟩
          have hDl : (s.data.toList.drop 1).take (s.size - 2) = D.data.toList := by
            rw [← hD]; simp only [ByteArray.data_extract, Array.toList_extract, List.extract]; congr 1
          have hDs : D.size ≤ s.size := by rw [← hD]; simp; omega
          rw [hDl] at hx
          have HX := hid hx
          have HE := hid hE
          clear hx hDl hll h40 h41 hE tl
          go_enter Tryd.func54, Tryd.ntmps54
          go_wp2
          go_loopw [4, 5] (fun r v wr => ∃ (B : ByteArray) (acc : List V), r = .string B ∧ B.size + acc.length ≤ s.size ∧ wr.ownsRow w.heap.size 41 3 v acc.length (flat acc) ∧ Hid (rowP acc B.data.toList = x) ∧ Below w.heap.size w wr) (fun r _ _ => (bytesOf r).size)
          case atStart => exact ⟨D, [], rfl, by simpa using hDs, World.ownsRow_nil _ _ _ _, HX, Below.refl _ _⟩
          case round =>
            obtain ⟨B, acc, rfl, hsz, hown, HK, hbel⟩ := hrel
            obtain ⟨m, hm⟩ : ∃ m, litLen B.data.toList = m := ⟨_, rfl⟩
            have hml := litLen_le B.data.toList
            have hBl : B.data.toList.length = B.size := by simp
            rw [hm, hBl] at hml
            obtain ⟨C, hC⟩ : ∃ C : ByteArray, B.extract 0 m = C := ⟨_, rfl⟩
            have hCl : B.data.toList.take m = C.data.toList := by rw [← hC, cut_list]
            have hCs : C.size ≤ 100000 := by rw [← hC]; simp; omega
            obtain ⟨⟨v, q⟩, hp⟩ : ∃ p, parseL C.data.toList = p := ⟨_, rfl⟩
            obtain ⟨R, hR⟩ : ∃ R : ByteArray, B.extract m B.size = R := ⟨_, rfl⟩
            have hRl : B.data.toList.drop m = R.data.toList := by rw [← hR, drop_extract]
            have hRs : R.size ≤ B.size - m := by rw [← hR]; simp
            have hpB : parseL (B.data.toList.take m) = (v, q) := by rw [hCl]; exact hp
            have H1 := fun W => hid (row_literal B W (by omega) hm)
            have H2 := fun W (h : Below w.heap.size w W) => hid (parse_lit C W hCs (HE.out.below h).err hp)
            clear HX
            by_cases hq : q = 0
            · subst hq
              have hown0 := hid hown
              cases hRe : R.toList.isEmpty
              · have hRne : R.data.toList ≠ [] := by
                  intro e; rw [Lib.toList_data, e] at hRe; cases hRe
                obtain ⟨b, hb⟩ : ∃ b, ([44, 32] : List UInt8).isPrefixOf R.data.toList = b := ⟨_, rfl⟩
                have H3 := fun W => hid (hasPre R ⟨#[44, 32]⟩ W hb)
                cases b
                · have hx := HK.out.symm.trans (rowP_form hm hpB (by rw [hRl]; exact hRne) (by rw [hRl]; exact hb))
                  subst hx
                  clear hRne hb
                  clear HK hp hpB hCl hRl hm hBl
                  go_wp2_with fail
                  refine (H1 _).out.mono ?_
                  rintro e w1 ⟨rfl, rfl⟩
                  go_wp2_with fail
                  refine (H2 _ hbel).out.mono ?_
                  rintro e w1 ⟨rfl, b1⟩
                  have hbel1 := hbel.trans (b1.mono hbel.size)
                  have hown1 := own_below hown b1
                  have hbelA := hbel1.trans ((below_one w1 (.cells #[.int .i64 v.k, .int .i64 v.n, .string v.s] 41)).mono hbel1.size)
                  have hownA := own_below hown1 (below_one w1 (.cells #[.int .i64 v.k, .int .i64 v.n, .string v.s] 41))
                  clear H1 H2 b1 hown hown0
                  go_wp2_with (at_builtin; refine wpList_append_new2 Tryd.underlying23 hi hz0 hz1 hz2 rfl (by decide) (by decide) rfl rfl rfl hownA rfl (by simp) rfl rfl (by omega) hbelA.size ?_; intro v2 w2 hown2 hg2)
                  refine (H3 _).out.mono ?_
                  rintro e w3 ⟨rfl, rfl⟩
                  clear H3
                  go_wp2
                  go_ret2
                  exact ⟨rfl, hbelA.trans (grown_below hownA hg2 hbelA.size)⟩
                · obtain ⟨hx, hl2⟩ := rowP_more (acc := acc) hm hpB (by rw [hRl]; exact hb)
                  rw [hRl] at hl2 hx
                  have hRl2 : R.data.toList.length = R.size := by simp
                  rw [hRl2] at hl2
                  obtain ⟨R2, hR2⟩ : ∃ R2 : ByteArray, R.extract 2 R.size = R2 := ⟨_, rfl⟩
                  have hR2l : R.data.toList.drop 2 = R2.data.toList := by rw [← hR2, drop_extract]
                  have hR2s : R2.size ≤ R.size - 2 := by rw [← hR2]; simp
                  have HN : Hid (rowP (acc ++ [v]) R2.data.toList = x) := hid (by rw [← HK.out, hx, hR2l])
                  clear hRne hb hx hRl2 hR2l
                  clear HK hp hpB hCl hRl hm hBl
                  go_wp2_with fail
                  refine (H1 _).out.mono ?_
                  rintro e w1 ⟨rfl, rfl⟩
                  go_wp2_with fail
                  refine (H2 _ hbel).out.mono ?_
                  rintro e w1 ⟨rfl, b1⟩
                  have hbel1 := hbel.trans (b1.mono hbel.size)
                  have hown1 := own_below hown b1
                  have hbelA := hbel1.trans ((below_one w1 (.cells #[.int .i64 v.k, .int .i64 v.n, .string v.s] 41)).mono hbel1.size)
                  have hownA := own_below hown1 (below_one w1 (.cells #[.int .i64 v.k, .int .i64 v.n, .string v.s] 41))
                  clear H1 H2 b1 hown hown0
                  go_wp2_with (at_builtin; refine wpList_append_new2 Tryd.underlying23 hi hz0 hz1 hz2 rfl (by decide) (by decide) rfl rfl rfl hownA rfl (by simp) rfl rfl (by omega) hbelA.size ?_; intro v2 w2 hown2 hg2)
                  refine (H3 _).out.mono ?_
                  rintro e w3 ⟨rfl, rfl⟩
                  clear H3
                  go_wp2_with fail
                  go_roundw
                  case rel => exact ⟨R2, acc ++ [v], rfl, by simp; omega, flat_snoc hown2, HN, hbelA.trans (grown_below hownA hg2 hbelA.size)⟩
                  case measure => simp [bytesOf]; omega
              · have hRe2 : R.data.toList = [] := by
                  rw [Lib.toList_data] at hRe; simpa using hRe
                have hx := HK.out.symm.trans (rowP_end hm hpB (by rw [hRl]; exact hRe2))
                subst hx
                clear hRe2
                clear HK hp hpB hCl hRl hm hBl
                go_wp2_with fail
                refine (H1 _).out.mono ?_
                rintro e w1 ⟨rfl, rfl⟩
                go_wp2_with fail
                refine (H2 _ hbel).out.mono ?_
                rintro e w1 ⟨rfl, b1⟩
                have hbel1 := hbel.trans (b1.mono hbel.size)
                have hown1 := own_below hown b1
                have hbelA := hbel1.trans ((below_one w1 (.cells #[.int .i64 v.k, .int .i64 v.n, .string v.s] 41)).mono hbel1.size)
                have hownA := own_below hown1 (below_one w1 (.cells #[.int .i64 v.k, .int .i64 v.n, .string v.s] 41))
                clear H1 H2 b1 hown hown0
                go_wp2_with (at_builtin; refine wpList_append_new2 Tryd.underlying23 hi hz0 hz1 hz2 rfl (by decide) (by decide) rfl rfl rfl hownA rfl (by simp) rfl rfl (by omega) hbelA.size ?_; intro v2 w2 hown2 hg2; obtain ⟨A2, c2, rfl, hR2, hc2⟩ := own_rowc (flat_snoc hown2))
                go_ret2
                exact ⟨A2, c2, by simp, hR2, hc2, hbelA.trans (grown_below hownA hg2 hbelA.size)⟩
            · have hx := HK.out.symm.trans (rowP_bad (acc := acc) hm hpB hq)
              subst hx
              have bq : (q != 0) = true := by simpa using hq
              clear HK hp hpB hq hCl hRl hm hBl hRs hR
              go_wp2_with fail
              refine (H1 _).out.mono ?_
              rintro e w1 ⟨rfl, rfl⟩
              go_wp2_with fail
              refine (H2 _ hbel).out.mono ?_
              rintro e w1 ⟨rfl, b1⟩
              have hbel1 := hbel.trans (b1.mono hbel.size)
              have hbelA := hbel1.trans ((below_one w1 (.cells #[.int .i64 v.k, .int .i64 v.n, .string v.s] 41)).mono hbel1.size)
              clear H1 H2 b1 hown
              go_wp2
              go_ret2
              exact ⟨rfl, hbelA⟩
        · rw [if_pos (.inr (.inr (fun e => h41 (congrArg UInt8.toNat e))))] at hx
          subst hx
          have b41 : (((s[s.size - 1]'hl1).toNat : Int) != 41) = true := by rw [bne_iff_ne]; omega
          clear tl hll hE h40 h41
          go_enter Tryd.func54, Tryd.ntmps54
          go_wp2
          go_ret2
          exact ⟨rfl, Below.refl _ _⟩
      · rw [if_pos (.inr (.inl (fun e => h40 (congrArg UInt8.toNat e))))] at hx
        subst hx
        have b40 : ((s[0].toNat : Int) != 40) = true := by rw [bne_iff_ne]; omega
        clear tl hll hE h40
        go_enter Tryd.func54, Tryd.ntmps54
        go_wp2
        go_ret2
        exact ⟨rfl, Below.refl _ _⟩
  · have he : s.data.toList = [40, 41] := by
      have : s.toList = [40, 41] := by simpa using hb0
      rw [tl] at this
      exact this
    rw [if_pos he] at hx
    subst hx
    clear tl hll hE he
    go_enter Tryd.func54, Tryd.ntmps54
    go_wp2
    go_ret2
    exact ⟨none, 0, rfl, RowAt.nil, by simp, Below.refl _ _⟩
end Go.Proofs.YtkoajdbijlpgaaaDoor
