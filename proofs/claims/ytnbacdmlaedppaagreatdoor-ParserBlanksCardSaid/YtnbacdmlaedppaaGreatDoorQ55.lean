/-
  PARTS of a claim, merged by segs.py: PgT.
-/
import Derived.Test.YtnbacdmlaedppaaGreatDoorQ37
import Derived.Test.YtnbacdmlaedppaaGreatDoorQ53
import Derived.Test.YtnbacdmlaedppaaGreatDoorQ44
import Derived.Test.YtnbacdmlaedppaaGreatDoorShelf4
import Derived.Shelf.Strings.BuilderK
import Derived.Deep.QuietTactic
import Derived.Deep.RegionHeld3
import Derived.Deep.RegionLaw
namespace Go.Proofs.YtnbacdmlaedppaaGreatDoor

/-! ### PgT -/
section
open Go.RowKit

theorem TokAt.cells20 {w : World} {b o : Nat} {l : List Tok} (h : TokAt w (some ⟨b, o, none⟩) l) {k : Nat} (hk : k < l.length) {x : Tok} (hx : l[k] = x) :
    w.cell? ⟨b, o + k * 6, none⟩ = some (.int .i64 x.k) ∧ w.cell? ⟨b, o + k * 6 + 1, none⟩ = some (.string ⟨x.t.toArray⟩) ∧ w.cell? ⟨b, o + k * 6 + 2, none⟩ = some (.int .i64 x.v.k) ∧ w.cell? ⟨b, o + k * 6 + 3, none⟩ = some (.int .i64 x.v.n) ∧ w.cell? ⟨b, o + k * 6 + 4, none⟩ = some (.string x.v.s) ∧ w.cell? ⟨b, o + k * 6 + 5, none⟩ = some (.int .i64 x.a) := by
  subst hx
  obtain ⟨b', o', e, hc⟩ := h (by omega)
  injection e with e
  injection e with e1 e2
  subst e1 e2
  exact hc k hk

theorem isb_below {T e : TypeId} {B b : Nat} {bs : List Value} {w w' : World} (h : Lib.IsBuilder T e B b bs w) (hb : Below w.heap.size w w') : Lib.IsBuilder T e B b bs w' := h.elim (fun x => .inl (bld_below x hb)) (fun x => .inr (bld_below x hb))
theorem own_others {w w' : World} {b B e z n : Nat} {v : Value} {xs : List Value} (h : w.ownsRow B e z v n xs) (ho : Lib.OthersKept 5 (some b) w w') (he : e ≠ 5) (hb : b < B) : w'.ownsRow B e z v n xs := by
  obtain ⟨hl, h0 | ⟨g, cap, cur, rfl, hB, hh, r⟩⟩ := h
  · exact ⟨hl, .inl h0⟩
  · exact ⟨hl, .inr ⟨g, cap, cur, rfl, hB, ho g _ hh (fun e => by injection e with e; omega) (fun c fz e => by injection e with _ e _; exact he e), r⟩⟩
theorem OwnQy.others {w w' : World} {b B : Nat} {H R O : Option Addr} {ch cr co : Nat} {q : Qry} (h : OwnQy w B H ch R cr O co q) (ho : Lib.OthersKept 5 (some b) w w') (hb : b < B) : OwnQy w' B H ch R cr O co q := by
  obtain ⟨h1, ⟨us, vs, h2, h3, h4, h5⟩, h6⟩ := h
  refine ⟨own_others h1 ho (by decide) hb, ⟨us, vs, h2, h3, own_others h4 ho (by decide) hb, fun i a b' d => ?_⟩, own_others h6 ho (by decide) hb⟩
  obtain ⟨⟨ts, g1, g2, g3⟩, g4⟩ := h5 i a b' d
  exact ⟨⟨ts, g1, own_others g2 ho (by decide) hb, fun j x y => own_others (g3 j x y) ho (by decide) hb⟩, own_others g4 ho (by decide) hb⟩
theorem bld_string (B b : Nat) (l : List UInt8) (w : World) (h : Lib.IsBuilder 54 5 B b (Lib.byteCells l) w) (hBw : B ≤ w.heap.size) :
    Calls Tryz.prog 19 #[.pointer (some ⟨b, 0, none⟩)] w fun e w' => e = .returned (.string ⟨l.toArray⟩) ∧ Below B w w' ∧ Lib.OthersKept 5 (some b) w w' :=
  (Any.Builder_String_any_k Tryz.lays169 Tryz.Builder_Extra_169 B b l w (Lib.IsBuilderF.of h) hBw).mono fun _ _ ⟨h1, _, h3, h4⟩ => ⟨h1, h3, h4⟩

set_option maxRecDepth 100000 in
set_option maxHeartbeats 4000000 in
theorem law_blanks (s : ByteArray) (G : Option Addr) (gl : List UInt8) (cg : Nat) (hgl : gl.length ≤ 9223372036854775807) (w : World) (hG : BytAt w G gl) (hE : EnvL w) :
    Calls Tryz.prog 6 #[.string s, .slice G gl.length cg] w fun e w' => e = .returned (.bool true) ∧ Below w.heap.size w w' := by
  have HAw := fun W (k : Below w.heap.size w W) => hid (awake20 W (hE.below k))
  by_cases hs : 400 < s.size
  · have hs1 : (400 : Int) < (s.size : Int) := by omega
    clear hE hs hG
    go_enter Tryz.func6, Tryz.ntmps6
    go_wp2_with fail
    refine (HAw _ (Below.refl _ _)).out.mono ?_
    rintro e w1 ⟨rfl, k1⟩
    clear HAw
    go_wp2
    go_ret
    exact ⟨rfl, k1⟩
  have hs1 : ¬ (400 : Int) < (s.size : Int) := by omega
  by_cases hg0 : gl.length = 0
  · have hg1 : ((gl.length : Int) == 0) = true := by simp [hg0]
    clear hE hs hG
    go_enter Tryz.func6, Tryz.ntmps6
    go_wp2_with fail
    refine (HAw _ (Below.refl _ _)).out.mono ?_
    rintro e w1 ⟨rfl, k1⟩
    clear HAw
    go_wp2
    go_ret
    exact ⟨rfl, k1⟩
  have hg1 : ((gl.length : Int) == 0) = false := by simpa using hg0
  have hgp : 0 < gl.length := by omega
  obtain ⟨⟨ts, q1, e1⟩, hx1⟩ : ∃ x, scanL s.data.toList = x := ⟨_, rfl⟩
  have HSc := hid (lex_scan s w hE (by omega) hx1)
  by_cases he : e1 ≠ 0
  · have hb0 : (e1 != 0) = true := by simpa using he
    clear hE hs hG hx1 hg0 he
    go_enter Tryz.func6, Tryz.ntmps6
    go_wp2_with fail
    refine HSc.out.mono ?_
    rintro e w1 ⟨A, c, rfl, -, -, k1⟩
    clear HSc
    go_wp2_with fail
    refine (HAw _ k1).out.mono ?_
    rintro e w2 ⟨rfl, k2⟩
    have k3 := k1.trans (k2.mono k1.size)
    clear HAw
    go_wp2
    go_ret
    exact ⟨rfl, k3⟩
  obtain rfl : e1 = 0 := by omega
  have hls : s.data.toList.length = s.size := by simp
  obtain ⟨n, hn, hnl⟩ := ok_ne hx1
  rw [hls] at hnl
  obtain ⟨js, hj1, hj2, hj3, hj4⟩ := blanks_plain hx1 (by omega) gl
  have HSN := hid (fun k (h : k < ts.length) => joinT_snoc ts (gapsM gl ts.length) k h)
  have HGI := hid (fun k (h : k < ts.length) => gapsM_at gl h hgp)
  have HTL := hid (fun k (h : k < ts.length) => tok_le (scanL_ok hx1).1 h)
  have HN := hid hn
  have HE := hid hE
  obtain ⟨⟨q, pa, pe⟩, hy⟩ : ∃ y, parseP (scanL s.data.toList) = y := ⟨_, rfl⟩
  rw [hy] at hj2 hj3
  simp only at hj2 hj3
  have HPs := fun W (k : Below w.heap.size w W) => hid (prs_parse_far s W (hE.below k) (by omega) rfl hy)
  have HJ := hid (And.intro hj1 (And.intro hj2 (And.intro hj3 hj4)))
  clear hE hx1 hy hj1 hj2 hj3 hj4 hg0
  go_enter Tryz.func6, Tryz.ntmps6
  go_wp2_with fail
  refine HSc.out.mono ?_
  rintro e w1 ⟨A, c, rfl, hTA, hcA, k1⟩
  obtain ⟨b, o, rfl⟩ : ∃ b o, A = some ⟨b, o, none⟩ := by
    obtain ⟨b, o, e, _⟩ := hTA (show 0 < ts.length by rw [HN.out]; omega)
    exact ⟨b, o, e⟩
  have HTA := hid hTA
  have hfb := Lib.fresh_isBuilder 54 5 w1
  simp only
  rw [HN.out] at hcA ⊢
  clear HSc hTA
  have HL0 : Hid ([] = joinT (ts.take 0) (gapsM gl ts.length)) := hid (by rw [List.take_zero, joinT_nil])
  have kb0 := below_one w1 (.cells #[.pointer none, .slice none 0 0] 54)
  go_wp2_with fail
  go_loopw [37] (fun i wr => ∃ (k : Nat) (l : List UInt8), k ≤ n + 1 ∧ i = .int .i64 k ∧ Lib.IsBuilder 54 5 w1.heap.size w1.heap.size (Lib.byteCells l) wr ∧ l.length ≤ k * 1003 ∧ Hid (l = joinT (ts.take k) (gapsM gl ts.length)) ∧ Below w1.heap.size w1 wr) (fun i _ => n + 1 - (intOf i).toNat)
  case atStart => exact ⟨0, [], by omega, rfl, hfb, by simp, HL0, kb0⟩
  case round =>
    obtain ⟨k, l, hk, rfl, hbld, hlen, HL, hbel⟩ := hrel
    clear HL0 kb0 hfb
    have hbel0 := k1.trans (hbel.mono k1.size)
    have hsz := hbel.size
    by_cases hlt : k < n + 1
    · obtain ⟨x, hx⟩ : ∃ x, ts[k]'(by rw [HN.out]; exact hlt) = x := ⟨_, rfl⟩
      obtain ⟨a0, a1, a2, a3, a4, a5⟩ := (HTA.out.below hbel).cells20 (by rw [HN.out]; exact hlt) hx
      have hxl := HTL.out k (by rw [HN.out]; exact hlt)
      have hsn := HSN.out k (by rw [HN.out]; exact hlt)
      have hgi := HGI.out k (by rw [HN.out]; exact hlt)
      rw [hx] at hxl hsn
      rw [hls] at hxl
      obtain ⟨X, hX⟩ : ∃ X : ByteArray, X = ⟨x.t.toArray⟩ := ⟨_, rfl⟩
      have hXl : X.size ≤ 400 := by rw [hX]; show x.t.toArray.size ≤ 400; simp; omega
      rw [← hX] at a1
      obtain ⟨bg, og, rfl, hgc⟩ := hG hgp
      obtain ⟨m, hm0⟩ : ∃ m, k % gl.length = m := ⟨_, rfl⟩
      have hml : m < gl.length := by rw [← hm0]; exact Nat.mod_lt _ hgp
      have g0 := hgc m hml
      have hrem : Int.tmod (k : Int) (gl.length : Int) = (m : Int) := by rw [← hm0]; exact (Int.ofNat_tmod k gl.length).symm
      simp only [hm0] at hgi
      rw [← hbel0.cell (cell_lt g0)] at g0
      generalize gl[m] = g at *
      have HG0 := hid hgi
      have HX := hid hX
      have HXL := hid (show x.t.length ≤ 400 by omega)
      have HSNk := hid hsn
      have hm : g.toNat % 4 = 0 ∨ g.toNat % 4 = 1 ∨ g.toNat % 4 = 2 ∨ g.toNat % 4 = 3 := by omega
      have hb6 : Below wr.heap.size wr wr := Below.refl _ _
      clear hx hxl hsn hX hgi hgc hG hm0
      have e1x := hid (below_one wr (.cells #[.int .i64 x.k, .string X, .int .i64 x.v.k, .int .i64 x.v.n, .string x.v.s, .int .i64 x.a] 58))
      have hnew := heap_alloc_new wr (.cells #[.int .i64 x.k, .string X, .int .i64 x.v.k, .int .i64 x.v.n, .string x.v.s, .int .i64 x.a] 58)
      have hszd : w1.heap.size ≤ (wr.alloc (.cells #[.int .i64 x.k, .string X, .int .i64 x.v.k, .int .i64 x.v.n, .string x.v.s, .int .i64 x.a] 58)).heap.size := by simp; omega
      have hBb : Below w1.heap.size w1 (wr.alloc (.cells #[.int .i64 x.k, .string X, .int .i64 x.v.k, .int .i64 x.v.n, .string x.v.s, .int .i64 x.a] 58)) := hbel.trans (e1x.out.mono hbel.size)
      have e1 : (wr.alloc (.cells #[.int .i64 x.k, .string X, .int .i64 x.v.k, .int .i64 x.v.n, .string x.v.s, .int .i64 x.a] 58)).cell? ⟨wr.heap.size, 1, none⟩ = some (.string X) := by rw [cell_res' hnew]; rfl
      have g1 := cell_keep e1x.out g0
      have HBD := hid (fun W (h : Below (wr.alloc (.cells #[.int .i64 x.k, .string X, .int .i64 x.v.k, .int .i64 x.v.n, .string x.v.s, .int .i64 x.a] 58)).heap.size (wr.alloc (.cells #[.int .i64 x.k, .string X, .int .i64 x.v.k, .int .i64 x.v.n, .string x.v.s, .int .i64 x.a] 58)) W) => isb_below hbld (e1x.out.trans (h.mono e1x.out.size)))
      have hHB := hid hBb
      have k0 : (0 : Int) ≤ (m : Int) := by omega
      have k1 : (m : Int) < (gl.length : Int) := by omega
      have hgl0 : ¬ gl = [] := by intro e; rw [e] at hgp; exact absurd hgp (by decide)
      have hlg := cell_lt g1
      have hlx := cell_lt e1
      clear hbld hnew hBb
      go_upto_region 10 with fail
      generalize (wr.alloc (.cells #[.int .i64 x.k, .string X, .int .i64 x.v.k, .int .i64 x.v.n, .string x.v.s, .int .i64 x.a] 58)) = wb at *
      have ne1 := World.new_ne wb _ e1
      have ne2 := World.new_ne wb _ g1
      rcases hm with hm | hm | hm | hm
      · have em2 : Int.tmod (g.toNat : Int) 4 = 0 := by rw [Int.tmod_eq_emod_of_nonneg (by omega)]; omega
        have HGE : Hid (gapM (g.toNat % 4) = [32]) := hid (by rw [hm]; rfl)
        have hsc : Lib.byteCells (x.t ++ [32]) = Lib.strCells (X ++ (⟨#[32]⟩ : ByteArray)) := by rw [HX.out]; show _ = Lib.byteCells _; simp [ByteArray.data_append]
        have hsl : (X ++ (⟨#[32]⟩ : ByteArray)).size ≤ 1003 := by rw [ByteArray.size_append]; have e1 : (⟨#[32]⟩ : ByteArray).size = 1 := rfl; omega
        have hws : ¬ 9223372036854775807 < X.size + 1 := by omega
        have HWS := fun W (h : Below wb.heap.size wb W) => hid (writeString w1.heap.size w1.heap.size (Lib.byteCells l) (X ++ (⟨#[32]⟩ : ByteArray)) W (HBD.out W h) (by rw [Lib.byteCells_length]; omega) (Nat.le_trans hszd h.size))
        clear hm
        go_region_law (go_simp; refine (HWS _ (below_one wb _).drew).out.mono ?_; rintro e w3 ⟨rfl, hbl3, hb3⟩; have HBL := hid hbl3; have HB3 := hid hb3; clear hbl3 hb3)
        all_goals
          have hbl4 := bldAdd hsc HBL.out
          have hbel7 := hHB.out.trans ((((below_one wb _).drew).mono hszd).trans HB3.out)
          have hll2 : (l ++ (x.t ++ [32])).length ≤ (k + 1) * 1003 := by
            have := HXL.out
            simp only [List.length_append, List.length_cons, List.length_nil]
            omega
          clear HBL HB3 HWS HBD hHB ne1 ne2 g1 e1
          go_wp2
          go_roundw
          case rel => exact ⟨k + 1, l ++ (x.t ++ [32]), by omega, by go_num, .inr hbl4, hll2, hid (by rw [HSNk.out, HG0.out, HGE.out, ← HL.out]), hbel7⟩
          case measure => simp [intOf]; omega
      · have em2 : Int.tmod (g.toNat : Int) 4 = 1 := by rw [Int.tmod_eq_emod_of_nonneg (by omega)]; omega
        have HGE : Hid (gapM (g.toNat % 4) = [10]) := hid (by rw [hm]; rfl)
        have hsc : Lib.byteCells (x.t ++ [10]) = Lib.strCells (X ++ (⟨#[10]⟩ : ByteArray)) := by rw [HX.out]; show _ = Lib.byteCells _; simp [ByteArray.data_append]
        have hsl : (X ++ (⟨#[10]⟩ : ByteArray)).size ≤ 1003 := by rw [ByteArray.size_append]; have e1 : (⟨#[10]⟩ : ByteArray).size = 1 := rfl; omega
        have hws : ¬ 9223372036854775807 < X.size + 1 := by omega
        have HWS := fun W (h : Below wb.heap.size wb W) => hid (writeString w1.heap.size w1.heap.size (Lib.byteCells l) (X ++ (⟨#[10]⟩ : ByteArray)) W (HBD.out W h) (by rw [Lib.byteCells_length]; omega) (Nat.le_trans hszd h.size))
        clear hm
        go_region_law (go_simp; refine (HWS _ (below_one wb _).drew).out.mono ?_; rintro e w3 ⟨rfl, hbl3, hb3⟩; have HBL := hid hbl3; have HB3 := hid hb3; clear hbl3 hb3)
        all_goals
          have hbl4 := bldAdd hsc HBL.out
          have hbel7 := hHB.out.trans ((((below_one wb _).drew).mono hszd).trans HB3.out)
          have hll2 : (l ++ (x.t ++ [10])).length ≤ (k + 1) * 1003 := by
            have := HXL.out
            simp only [List.length_append, List.length_cons, List.length_nil]
            omega
          clear HBL HB3 HWS HBD hHB ne1 ne2 g1 e1
          go_wp2
          go_roundw
          case rel => exact ⟨k + 1, l ++ (x.t ++ [10]), by omega, by go_num, .inr hbl4, hll2, hid (by rw [HSNk.out, HG0.out, HGE.out, ← HL.out]), hbel7⟩
          case measure => simp [intOf]; omega
      · have em2 : Int.tmod (g.toNat : Int) 4 = 2 := by rw [Int.tmod_eq_emod_of_nonneg (by omega)]; omega
        have HGE : Hid (gapM (g.toNat % 4) = [32, 9, 32]) := hid (by rw [hm]; rfl)
        have hsc : Lib.byteCells (x.t ++ [32, 9, 32]) = Lib.strCells (X ++ (⟨#[32, 9, 32]⟩ : ByteArray)) := by rw [HX.out]; show _ = Lib.byteCells _; simp [ByteArray.data_append]
        have hsl : (X ++ (⟨#[32, 9, 32]⟩ : ByteArray)).size ≤ 1003 := by rw [ByteArray.size_append]; have e1 : (⟨#[32, 9, 32]⟩ : ByteArray).size = 3 := rfl; omega
        have hws : ¬ 9223372036854775807 < X.size + 3 := by omega
        have HWS := fun W (h : Below wb.heap.size wb W) => hid (writeString w1.heap.size w1.heap.size (Lib.byteCells l) (X ++ (⟨#[32, 9, 32]⟩ : ByteArray)) W (HBD.out W h) (by rw [Lib.byteCells_length]; omega) (Nat.le_trans hszd h.size))
        clear hm
        go_region_law (go_simp; refine (HWS _ (below_one wb _).drew).out.mono ?_; rintro e w3 ⟨rfl, hbl3, hb3⟩; have HBL := hid hbl3; have HB3 := hid hb3; clear hbl3 hb3)
        all_goals
          have hbl4 := bldAdd hsc HBL.out
          have hbel7 := hHB.out.trans ((((below_one wb _).drew).mono hszd).trans HB3.out)
          have hll2 : (l ++ (x.t ++ [32, 9, 32])).length ≤ (k + 1) * 1003 := by
            have := HXL.out
            simp only [List.length_append, List.length_cons, List.length_nil]
            omega
          clear HBL HB3 HWS HBD hHB ne1 ne2 g1 e1
          go_wp2
          go_roundw
          case rel => exact ⟨k + 1, l ++ (x.t ++ [32, 9, 32]), by omega, by go_num, .inr hbl4, hll2, hid (by rw [HSNk.out, HG0.out, HGE.out, ← HL.out]), hbel7⟩
          case measure => simp [intOf]; omega
      · have em2 : Int.tmod (g.toNat : Int) 4 = 3 := by rw [Int.tmod_eq_emod_of_nonneg (by omega)]; omega
        have HGE : Hid (gapM (g.toNat % 4) = [13, 10]) := hid (by rw [hm]; rfl)
        have hsc : Lib.byteCells (x.t ++ [13, 10]) = Lib.strCells (X ++ (⟨#[13, 10]⟩ : ByteArray)) := by rw [HX.out]; show _ = Lib.byteCells _; simp [ByteArray.data_append]
        have hsl : (X ++ (⟨#[13, 10]⟩ : ByteArray)).size ≤ 1003 := by rw [ByteArray.size_append]; have e1 : (⟨#[13, 10]⟩ : ByteArray).size = 2 := rfl; omega
        have hws : ¬ 9223372036854775807 < X.size + 2 := by omega
        have HWS := fun W (h : Below wb.heap.size wb W) => hid (writeString w1.heap.size w1.heap.size (Lib.byteCells l) (X ++ (⟨#[13, 10]⟩ : ByteArray)) W (HBD.out W h) (by rw [Lib.byteCells_length]; omega) (Nat.le_trans hszd h.size))
        clear hm
        go_region_law (go_simp; refine (HWS _ (below_one wb _).drew).out.mono ?_; rintro e w3 ⟨rfl, hbl3, hb3⟩; have HBL := hid hbl3; have HB3 := hid hb3; clear hbl3 hb3)
        all_goals
          have hbl4 := bldAdd hsc HBL.out
          have hbel7 := hHB.out.trans ((((below_one wb _).drew).mono hszd).trans HB3.out)
          have hll2 : (l ++ (x.t ++ [13, 10])).length ≤ (k + 1) * 1003 := by
            have := HXL.out
            simp only [List.length_append, List.length_cons, List.length_nil]
            omega
          clear HBL HB3 HWS HBD hHB ne1 ne2 g1 e1
          go_wp2
          go_roundw
          case rel => exact ⟨k + 1, l ++ (x.t ++ [13, 10]), by omega, by go_num, .inr hbl4, hll2, hid (by rw [HSNk.out, HG0.out, HGE.out, ← HL.out]), hbel7⟩
          case measure => simp [intOf]; omega
    · obtain rfl : k = n + 1 := by omega
      have hl : l = joinT ts (gapsM gl ts.length) := by rw [HL.out, List.take_of_length_le (by rw [HN.out]; omega)]
      have hls2 : l.length ≤ 65536 := by rw [hl]; exact HJ.out.2.2.2
      obtain ⟨⟨q2, pa2, pe2⟩, hy2⟩ : ∃ y2, parseP (scanL l) = y2 := ⟨_, rfl⟩
      have hq2 : q = q2 ∧ pe = pe2 := by
        have h1 := HJ.out
        rw [← hl] at h1
        rw [h1.1] at hy2
        rw [hy2] at h1
        exact ⟨h1.2.1.symm, h1.2.2.1.symm⟩
      obtain ⟨rfl, rfl⟩ := hq2
      obtain ⟨T, hT⟩ : ∃ T : ByteArray, ⟨l.toArray⟩ = T := ⟨_, rfl⟩
      have hTl : T.data.toList = l := by rw [← hT]
      have hTs : T.size ≤ 65536 := by rw [← hT]; show l.toArray.size ≤ 65536; simpa using hls2
      rw [← hTl] at hy2
      have HP1 := hid (HPs wr hbel0).out
      have HP2 := fun W (k : Below w.heap.size w W) => hid (prs_parse_far T W (HE.out.below k) hTs rfl hy2)
      have hlt1 : w1.heap.size < wr.heap.size := hbld.elim (fun h => h.lt) (fun h => h.lt)
      have HBl := hid hbld
      have HT := hid hT
      have HB0 := hid hbel0
      have H01 := hid k1.size
      have hee : (pe == pe) = true := by simp
      clear hl hls2 hy2 hT hTl hTs HPs hbld hbel0 HSN HGI HTL HJ HTA
      go_wp2_with fail
      refine HP1.out.mono ?_
      rintro e w2 ⟨A1, R1, O1, a1, b1, d1, rfl, i1, i1s, f1, k2⟩
      simp only at i1 i1s ⊢
      have x2 := below_one w2 (.cells #[.slice A1 q.head.length a1, .int .i64 q.agg, .string ⟨q.aggVar.toArray⟩, .slice R1 q.rules.length b1, .slice O1 q.order.length d1] 27)
      have h2 := heap_alloc_new w2 (.cells #[.slice A1 q.head.length a1, .int .i64 q.agg, .string ⟨q.aggVar.toArray⟩, .slice R1 q.rules.length b1, .slice O1 q.order.length d1] 27)
      have l2 : w2.heap.size < (w2.alloc (.cells #[.slice A1 q.head.length a1, .int .i64 q.agg, .string ⟨q.aggVar.toArray⟩, .slice R1 q.rules.length b1, .slice O1 q.order.length d1] 27)).heap.size := by simp
      obtain ⟨w3, hw3⟩ : ∃ w3, w2.alloc (.cells #[.slice A1 q.head.length a1, .int .i64 q.agg, .string ⟨q.aggVar.toArray⟩, .slice R1 q.rules.length b1, .slice O1 q.order.length d1] 27) = w3 := ⟨_, rfl⟩
      rw [hw3] at x2 h2 l2
      have HW3 := hid hw3
      have kk := k2.trans (x2.mono k2.size)
      have K3 := hid (HB0.out.trans (kk.mono HB0.out.size))
      have I3 := hid (i1.below x2)
      have IS := hid i1s
      have G3 := hid h2
      have hsz3 := kk.size
      have hn2 : w2.heap.size ≠ w1.heap.size := by have := k2.size; omega
      have HStr := hid (show Calls Tryz.prog 19 #[.pointer (some ⟨w1.heap.size, 0, none⟩)] w3 fun e w' => e = .returned (.string T) ∧ Below w1.heap.size w3 w' ∧ Lib.OthersKept 5 (some w1.heap.size) w3 w' from by
        have := bld_string w1.heap.size w1.heap.size l w3 (isb_below HBl.out kk) (by omega)
        rw [HT.out] at this
        exact this)
      clear hw3 HP1 i1 i1s k2 x2 h2 f1 kk HB0 HBl
      go_wp2_with (first | rw [HW3.out] | fail)
      refine HStr.out.mono ?_
      rintro e w4 ⟨rfl, b4, o4⟩
      have K4 := hid (K3.out.trans (b4.mono H01.out))
      have I4 := hid (I3.out.others o4 hlt1)
      have G4 := hid (o4 w2.heap.size _ G3.out (fun e => by injection e with e; exact hn2 e) (fun c fz e => by injection e with _ e _; exact absurd e (by decide)))
      have l4 : w2.heap.size < w4.heap.size := by have := b4.size; omega
      have HP4 := hid (HP2 w4 K4.out).out
      clear HStr b4 o4 K3 I3 G3 HP2 l2
      go_wp2_with fail
      refine HP4.out.mono ?_
      rintro e w5 ⟨A2, R2, O2, a2, b2, d2, rfl, i5, i5s, f5, k5⟩
      simp only at i5 i5s ⊢
      have x5 := below_one w5 (.cells #[.slice A2 q.head.length a2, .int .i64 q.agg, .string ⟨q.aggVar.toArray⟩, .slice R2 q.rules.length b2, .slice O2 q.order.length d2] 27)
      have h5 := heap_alloc_new w5 (.cells #[.slice A2 q.head.length a2, .int .i64 q.agg, .string ⟨q.aggVar.toArray⟩, .slice R2 q.rules.length b2, .slice O2 q.order.length d2] 27)
      have l5 : w5.heap.size < (w5.alloc (.cells #[.slice A2 q.head.length a2, .int .i64 q.agg, .string ⟨q.aggVar.toArray⟩, .slice R2 q.rules.length b2, .slice O2 q.order.length d2] 27)).heap.size := by simp
      obtain ⟨w6, hw6⟩ : ∃ w6, w5.alloc (.cells #[.slice A2 q.head.length a2, .int .i64 q.agg, .string ⟨q.aggVar.toArray⟩, .slice R2 q.rules.length b2, .slice O2 q.order.length d2] 27) = w6 := ⟨_, rfl⟩
      rw [hw6] at x5 h5 l5
      have HW6 := hid hw6
      have kk := k5.trans (x5.mono k5.size)
      have K6 := hid (K4.out.trans (kk.mono K4.out.size))
      have I6 := hid (I4.out.below kk)
      have J6 := hid (own_qry (i5.below x5) i5s)
      have G6 := hid ((kk.block w2.heap.size l4).trans G4.out)
      have P6 := hid h5
      have l26 : w2.heap.size < w6.heap.size := Nat.lt_of_lt_of_le l4 kk.size
      have HA := hid (HAw w6 K6.out).out
      clear hw6 HP4 i5 i5s k5 x5 h5 f5 kk K4 I4 G4 HAw
      go_wp2_with (first | rw [HW6.out] | fail)
      refine HA.out.mono ?_
      rintro e w7 ⟨rfl, k7⟩
      have K7 := hid (K6.out.trans (k7.mono K6.out.size))
      have HEq := hid (ast_equal q q A1 R1 O1 A2 R2 O2 a1 b1 d1 a2 b2 d2 w7 (own_qry (I6.out.below k7) IS.out) (J6.out.below k7) (b := true) ⟨fun _ => rfl, fun _ => rfl⟩)
      have g1 := (k7.block w2.heap.size l26).trans G6.out
      have g2 := (k7.block w5.heap.size l5).trans P6.out
      have c10 := box_cell g1 0
      have c11 := box_cell g1 1
      have c12 := box_cell g1 2
      have c13 := box_cell g1 3
      have c14 := box_cell g1 4
      have c20 := box_cell g2 0
      have c21 := box_cell g2 1
      have c22 := box_cell g2 2
      have c23 := box_cell g2 3
      have c24 := box_cell g2 4
      clear HA k7 g1 g2 G6 P6 I6 J6 K6
      go_wp2_with fail
      refine HEq.out.mono ?_
      rintro e w8 ⟨rfl, k8⟩
      have K8 := hid (K7.out.trans (k8.mono K7.out.size))
      clear HEq k8 K7
      go_wp2
      go_ret
      exact ⟨rfl, K8.out⟩
end
end Go.Proofs.YtnbacdmlaedppaaGreatDoor
