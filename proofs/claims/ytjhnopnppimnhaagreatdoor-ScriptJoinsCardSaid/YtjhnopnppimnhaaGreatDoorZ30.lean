/-
  PARTS of a claim, merged by segs.py: Lw3c.
-/
import Derived.Test.YtjhnopnppimnhaaGreatDoorZ16
namespace Go.Proofs.YtjhnopnppimnhaaGreatDoor

/-! ### Lw3c -/
section
open Go.RowKit

set_option maxRecDepth 100000 in
set_option maxHeartbeats 4000000 in
theorem lex_next_sym3 (s : ByteArray) (a : Nat) (w : World) (hE : EnvL w) (_ha : a < s.size) (_hs : s.size ≤ 100000) {x : Tok × Int} (D : ByteArray) (hD : s.extract a s.size = D) (_hp : 0 < D.size) (_hDm : D.size ≤ 100000) (hl : letB D[0] = false) (h1 : 1 < D.size) (d1 : digB D[0] = false) (_d2 : ((D[0].toNat : Int) == 45) = true) (d3 : digB D[1] = false) (_b34 : ((D[0].toNat : Int) == 34) = false) (hx : symTok D.data.toList a = x) :
    Calls Tryz.prog 81 #[.string s, .int .i64 a] w (RetT w x) := by
  have k0 := below_one w (.cells zTok 117)
  have hz := heap_alloc_new w (.cells zTok 117)
  have H0 := fun W => hid (lex_letter D[0] W hl)
  have HS := hE.sym
  have HX := hid hx
  clear hx hE hl
  have g0 : w.cell? ⟨3, 0, none⟩ = some (.string ⟨#[58, 45]⟩) := HS 0 (by omega)
  have g1 : w.cell? ⟨3, 1, none⟩ = some (.string ⟨#[33, 61]⟩) := HS 1 (by omega)
  have g2 : w.cell? ⟨3, 2, none⟩ = some (.string ⟨#[60, 61]⟩) := HS 2 (by omega)
  have g3 : w.cell? ⟨3, 3, none⟩ = some (.string ⟨#[62, 61]⟩) := HS 3 (by omega)
  have g4 : w.cell? ⟨3, 4, none⟩ = some (.string ⟨#[40]⟩) := HS 4 (by omega)
  have g5 : w.cell? ⟨3, 5, none⟩ = some (.string ⟨#[41]⟩) := HS 5 (by omega)
  have g6 : w.cell? ⟨3, 6, none⟩ = some (.string ⟨#[44]⟩) := HS 6 (by omega)
  have g7 : w.cell? ⟨3, 7, none⟩ = some (.string ⟨#[59]⟩) := HS 7 (by omega)
  have g8 : w.cell? ⟨3, 8, none⟩ = some (.string ⟨#[124]⟩) := HS 8 (by omega)
  have g9 : w.cell? ⟨3, 9, none⟩ = some (.string ⟨#[61]⟩) := HS 9 (by omega)
  have g10 : w.cell? ⟨3, 10, none⟩ = some (.string ⟨#[60]⟩) := HS 10 (by omega)
  have g11 : w.cell? ⟨3, 11, none⟩ = some (.string ⟨#[62]⟩) := HS 11 (by omega)
  have hlt := cell_lt g0
  clear HS
  have H1 := fun W => hid (lex_digit D[0] W d1)
  clear d1
  have H4 := fun W => hid (lex_digit D[1] W d3)
  clear d3
  go_enter Tryz.func81, Tryz.ntmps81
  go_wp2_with fail
  refine ((H0 _).out).mono ?_
  rintro e w1 ⟨rfl, rfl⟩
  go_wp2_with fail
  refine ((H1 _).out).mono ?_
  rintro e w1 ⟨rfl, rfl⟩
  go_wp2_with fail
  refine ((H4 _).out).mono ?_
  rintro e w1 ⟨rfl, rfl⟩
  go_wp2
  go_loop [72] (fun i => ∃ k : Nat, k ≤ 12 ∧ i = .int .i64 k ∧ Hid (∀ j (_ : j < k) (h : j < 12), (symB[j]'h).data.toList.isPrefixOf D.data.toList = false)) (fun i => 12 - (intOf i).toNat)
  case atStart => exact ⟨0, by omega, rfl, hid (fun j hj => by omega)⟩
  case round =>
    obtain ⟨k, hk, rfl, HN⟩ := hrel
    clear g0 g1 g2 g3 g4 g5 g6 g7 g8 g9 g10 g11 hlt
    by_cases hk12 : k < 12
    · obtain rfl | rfl | rfl | rfl | rfl | rfl | rfl | rfl | rfl | rfl | rfl | rfl : k = 0 ∨ k = 1 ∨ k = 2 ∨ k = 3 ∨ k = 4 ∨ k = 5 ∨ k = 6 ∨ k = 7 ∨ k = 8 ∨ k = 9 ∨ k = 10 ∨ k = 11 := by omega
      · cases hpx : (⟨#[58, 45]⟩ : ByteArray).data.toList.isPrefixOf D.data.toList
        · have hix := sym_ix0
          have H5 := fun W => hid (hasP D ⟨#[58, 45]⟩ W hpx)
          have HN2 : Hid (∀ j (_ : j < 1) (h : j < 12), (symB[j]'h).data.toList.isPrefixOf D.data.toList = false) := hid (fun j hj h => by
            by_cases e : j = 0
            · subst e; exact hpx
            · exact HN.out j (by omega) h)
          clear HN HX hpx
          go_wp2_with fail
          refine ((H5 _).out).mono ?_
          rintro e w1 ⟨rfl, rfl⟩
          clear H5
          go_wp2
          go_round
          case rel => exact ⟨1, by omega, by go_num, HN2⟩
          case measure => simp [intOf]
        · have hix := sym_ix0
          have H5 := fun W => hid (hasP D ⟨#[58, 45]⟩ W hpx)
          have hxx := find_found (k := 0) (by omega) (fun j hj => HN.out j hj (by omega)) hpx a
          rw [HX.out] at hxx
          subst hxx
          clear HN HX hpx
          go_wp2_with fail
          refine ((H5 _).out).mono ?_
          rintro e w1 ⟨rfl, rfl⟩
          clear H5
          go_wp2_with (refine wpList_store_res rfl rfl rfl rfl hz infoTok rfl rfl ?_; intro w9 hz9 hb9)
          refine bodyPost_ret (by simp [results, Tryz.results81, go_sem, cell_res hz9]; rfl) rfl ?_
          exact ⟨rfl, k0.trans hb9⟩
      · cases hpx : (⟨#[33, 61]⟩ : ByteArray).data.toList.isPrefixOf D.data.toList
        · have hix := sym_ix1
          have H5 := fun W => hid (hasP D ⟨#[33, 61]⟩ W hpx)
          have HN2 : Hid (∀ j (_ : j < 2) (h : j < 12), (symB[j]'h).data.toList.isPrefixOf D.data.toList = false) := hid (fun j hj h => by
            by_cases e : j = 1
            · subst e; exact hpx
            · exact HN.out j (by omega) h)
          clear HN HX hpx
          go_wp2_with fail
          refine ((H5 _).out).mono ?_
          rintro e w1 ⟨rfl, rfl⟩
          clear H5
          go_wp2
          go_round
          case rel => exact ⟨2, by omega, by go_num, HN2⟩
          case measure => simp [intOf]
        · have hix := sym_ix1
          have H5 := fun W => hid (hasP D ⟨#[33, 61]⟩ W hpx)
          have hxx := find_found (k := 1) (by omega) (fun j hj => HN.out j hj (by omega)) hpx a
          rw [HX.out] at hxx
          subst hxx
          clear HN HX hpx
          go_wp2_with fail
          refine ((H5 _).out).mono ?_
          rintro e w1 ⟨rfl, rfl⟩
          clear H5
          go_wp2_with (refine wpList_store_res rfl rfl rfl rfl hz infoTok rfl rfl ?_; intro w9 hz9 hb9)
          refine bodyPost_ret (by simp [results, Tryz.results81, go_sem, cell_res hz9]; rfl) rfl ?_
          exact ⟨rfl, k0.trans hb9⟩
      · cases hpx : (⟨#[60, 61]⟩ : ByteArray).data.toList.isPrefixOf D.data.toList
        · have hix := sym_ix2
          have H5 := fun W => hid (hasP D ⟨#[60, 61]⟩ W hpx)
          have HN2 : Hid (∀ j (_ : j < 3) (h : j < 12), (symB[j]'h).data.toList.isPrefixOf D.data.toList = false) := hid (fun j hj h => by
            by_cases e : j = 2
            · subst e; exact hpx
            · exact HN.out j (by omega) h)
          clear HN HX hpx
          go_wp2_with fail
          refine ((H5 _).out).mono ?_
          rintro e w1 ⟨rfl, rfl⟩
          clear H5
          go_wp2
          go_round
          case rel => exact ⟨3, by omega, by go_num, HN2⟩
          case measure => simp [intOf]
        · have hix := sym_ix2
          have H5 := fun W => hid (hasP D ⟨#[60, 61]⟩ W hpx)
          have hxx := find_found (k := 2) (by omega) (fun j hj => HN.out j hj (by omega)) hpx a
          rw [HX.out] at hxx
          subst hxx
          clear HN HX hpx
          go_wp2_with fail
          refine ((H5 _).out).mono ?_
          rintro e w1 ⟨rfl, rfl⟩
          clear H5
          go_wp2_with (refine wpList_store_res rfl rfl rfl rfl hz infoTok rfl rfl ?_; intro w9 hz9 hb9)
          refine bodyPost_ret (by simp [results, Tryz.results81, go_sem, cell_res hz9]; rfl) rfl ?_
          exact ⟨rfl, k0.trans hb9⟩
      · cases hpx : (⟨#[62, 61]⟩ : ByteArray).data.toList.isPrefixOf D.data.toList
        · have hix := sym_ix3
          have H5 := fun W => hid (hasP D ⟨#[62, 61]⟩ W hpx)
          have HN2 : Hid (∀ j (_ : j < 4) (h : j < 12), (symB[j]'h).data.toList.isPrefixOf D.data.toList = false) := hid (fun j hj h => by
            by_cases e : j = 3
            · subst e; exact hpx
            · exact HN.out j (by omega) h)
          clear HN HX hpx
          go_wp2_with fail
          refine ((H5 _).out).mono ?_
          rintro e w1 ⟨rfl, rfl⟩
          clear H5
          go_wp2
          go_round
          case rel => exact ⟨4, by omega, by go_num, HN2⟩
          case measure => simp [intOf]
        · have hix := sym_ix3
          have H5 := fun W => hid (hasP D ⟨#[62, 61]⟩ W hpx)
          have hxx := find_found (k := 3) (by omega) (fun j hj => HN.out j hj (by omega)) hpx a
          rw [HX.out] at hxx
          subst hxx
          clear HN HX hpx
          go_wp2_with fail
          refine ((H5 _).out).mono ?_
          rintro e w1 ⟨rfl, rfl⟩
          clear H5
          go_wp2_with (refine wpList_store_res rfl rfl rfl rfl hz infoTok rfl rfl ?_; intro w9 hz9 hb9)
          refine bodyPost_ret (by simp [results, Tryz.results81, go_sem, cell_res hz9]; rfl) rfl ?_
          exact ⟨rfl, k0.trans hb9⟩
      · cases hpx : (⟨#[40]⟩ : ByteArray).data.toList.isPrefixOf D.data.toList
        · have hix := sym_ix4
          have H5 := fun W => hid (hasP D ⟨#[40]⟩ W hpx)
          have HN2 : Hid (∀ j (_ : j < 5) (h : j < 12), (symB[j]'h).data.toList.isPrefixOf D.data.toList = false) := hid (fun j hj h => by
            by_cases e : j = 4
            · subst e; exact hpx
            · exact HN.out j (by omega) h)
          clear HN HX hpx
          go_wp2_with fail
          refine ((H5 _).out).mono ?_
          rintro e w1 ⟨rfl, rfl⟩
          clear H5
          go_wp2
          go_round
          case rel => exact ⟨5, by omega, by go_num, HN2⟩
          case measure => simp [intOf]
        · have hix := sym_ix4
          have H5 := fun W => hid (hasP D ⟨#[40]⟩ W hpx)
          have hxx := find_found (k := 4) (by omega) (fun j hj => HN.out j hj (by omega)) hpx a
          rw [HX.out] at hxx
          subst hxx
          clear HN HX hpx
          go_wp2_with fail
          refine ((H5 _).out).mono ?_
          rintro e w1 ⟨rfl, rfl⟩
          clear H5
          go_wp2_with (refine wpList_store_res rfl rfl rfl rfl hz infoTok rfl rfl ?_; intro w9 hz9 hb9)
          refine bodyPost_ret (by simp [results, Tryz.results81, go_sem, cell_res hz9]; rfl) rfl ?_
          exact ⟨rfl, k0.trans hb9⟩
      · cases hpx : (⟨#[41]⟩ : ByteArray).data.toList.isPrefixOf D.data.toList
        · have hix := sym_ix5
          have H5 := fun W => hid (hasP D ⟨#[41]⟩ W hpx)
          have HN2 : Hid (∀ j (_ : j < 6) (h : j < 12), (symB[j]'h).data.toList.isPrefixOf D.data.toList = false) := hid (fun j hj h => by
            by_cases e : j = 5
            · subst e; exact hpx
            · exact HN.out j (by omega) h)
          clear HN HX hpx
          go_wp2_with fail
          refine ((H5 _).out).mono ?_
          rintro e w1 ⟨rfl, rfl⟩
          clear H5
          go_wp2
          go_round
          case rel => exact ⟨6, by omega, by go_num, HN2⟩
          case measure => simp [intOf]
        · have hix := sym_ix5
          have H5 := fun W => hid (hasP D ⟨#[41]⟩ W hpx)
          have hxx := find_found (k := 5) (by omega) (fun j hj => HN.out j hj (by omega)) hpx a
          rw [HX.out] at hxx
          subst hxx
          clear HN HX hpx
          go_wp2_with fail
          refine ((H5 _).out).mono ?_
          rintro e w1 ⟨rfl, rfl⟩
          clear H5
          go_wp2_with (refine wpList_store_res rfl rfl rfl rfl hz infoTok rfl rfl ?_; intro w9 hz9 hb9)
          refine bodyPost_ret (by simp [results, Tryz.results81, go_sem, cell_res hz9]; rfl) rfl ?_
          exact ⟨rfl, k0.trans hb9⟩
      · cases hpx : (⟨#[44]⟩ : ByteArray).data.toList.isPrefixOf D.data.toList
        · have hix := sym_ix6
          have H5 := fun W => hid (hasP D ⟨#[44]⟩ W hpx)
          have HN2 : Hid (∀ j (_ : j < 7) (h : j < 12), (symB[j]'h).data.toList.isPrefixOf D.data.toList = false) := hid (fun j hj h => by
            by_cases e : j = 6
            · subst e; exact hpx
            · exact HN.out j (by omega) h)
          clear HN HX hpx
          go_wp2_with fail
          refine ((H5 _).out).mono ?_
          rintro e w1 ⟨rfl, rfl⟩
          clear H5
          go_wp2
          go_round
          case rel => exact ⟨7, by omega, by go_num, HN2⟩
          case measure => simp [intOf]
        · have hix := sym_ix6
          have H5 := fun W => hid (hasP D ⟨#[44]⟩ W hpx)
          have hxx := find_found (k := 6) (by omega) (fun j hj => HN.out j hj (by omega)) hpx a
          rw [HX.out] at hxx
          subst hxx
          clear HN HX hpx
          go_wp2_with fail
          refine ((H5 _).out).mono ?_
          rintro e w1 ⟨rfl, rfl⟩
          clear H5
          go_wp2_with (refine wpList_store_res rfl rfl rfl rfl hz infoTok rfl rfl ?_; intro w9 hz9 hb9)
          refine bodyPost_ret (by simp [results, Tryz.results81, go_sem, cell_res hz9]; rfl) rfl ?_
          exact ⟨rfl, k0.trans hb9⟩
      · cases hpx : (⟨#[59]⟩ : ByteArray).data.toList.isPrefixOf D.data.toList
        · have hix := sym_ix7
          have H5 := fun W => hid (hasP D ⟨#[59]⟩ W hpx)
          have HN2 : Hid (∀ j (_ : j < 8) (h : j < 12), (symB[j]'h).data.toList.isPrefixOf D.data.toList = false) := hid (fun j hj h => by
            by_cases e : j = 7
            · subst e; exact hpx
            · exact HN.out j (by omega) h)
          clear HN HX hpx
          go_wp2_with fail
          refine ((H5 _).out).mono ?_
          rintro e w1 ⟨rfl, rfl⟩
          clear H5
          go_wp2
          go_round
          case rel => exact ⟨8, by omega, by go_num, HN2⟩
          case measure => simp [intOf]
        · have hix := sym_ix7
          have H5 := fun W => hid (hasP D ⟨#[59]⟩ W hpx)
          have hxx := find_found (k := 7) (by omega) (fun j hj => HN.out j hj (by omega)) hpx a
          rw [HX.out] at hxx
          subst hxx
          clear HN HX hpx
          go_wp2_with fail
          refine ((H5 _).out).mono ?_
          rintro e w1 ⟨rfl, rfl⟩
          clear H5
          go_wp2_with (refine wpList_store_res rfl rfl rfl rfl hz infoTok rfl rfl ?_; intro w9 hz9 hb9)
          refine bodyPost_ret (by simp [results, Tryz.results81, go_sem, cell_res hz9]; rfl) rfl ?_
          exact ⟨rfl, k0.trans hb9⟩
      · cases hpx : (⟨#[124]⟩ : ByteArray).data.toList.isPrefixOf D.data.toList
        · have hix := sym_ix8
          have H5 := fun W => hid (hasP D ⟨#[124]⟩ W hpx)
          have HN2 : Hid (∀ j (_ : j < 9) (h : j < 12), (symB[j]'h).data.toList.isPrefixOf D.data.toList = false) := hid (fun j hj h => by
            by_cases e : j = 8
            · subst e; exact hpx
            · exact HN.out j (by omega) h)
          clear HN HX hpx
          go_wp2_with fail
          refine ((H5 _).out).mono ?_
          rintro e w1 ⟨rfl, rfl⟩
          clear H5
          go_wp2
          go_round
          case rel => exact ⟨9, by omega, by go_num, HN2⟩
          case measure => simp [intOf]
        · have hix := sym_ix8
          have H5 := fun W => hid (hasP D ⟨#[124]⟩ W hpx)
          have hxx := find_found (k := 8) (by omega) (fun j hj => HN.out j hj (by omega)) hpx a
          rw [HX.out] at hxx
          subst hxx
          clear HN HX hpx
          go_wp2_with fail
          refine ((H5 _).out).mono ?_
          rintro e w1 ⟨rfl, rfl⟩
          clear H5
          go_wp2_with (refine wpList_store_res rfl rfl rfl rfl hz infoTok rfl rfl ?_; intro w9 hz9 hb9)
          refine bodyPost_ret (by simp [results, Tryz.results81, go_sem, cell_res hz9]; rfl) rfl ?_
          exact ⟨rfl, k0.trans hb9⟩
      · cases hpx : (⟨#[61]⟩ : ByteArray).data.toList.isPrefixOf D.data.toList
        · have hix := sym_ix9
          have H5 := fun W => hid (hasP D ⟨#[61]⟩ W hpx)
          have HN2 : Hid (∀ j (_ : j < 10) (h : j < 12), (symB[j]'h).data.toList.isPrefixOf D.data.toList = false) := hid (fun j hj h => by
            by_cases e : j = 9
            · subst e; exact hpx
            · exact HN.out j (by omega) h)
          clear HN HX hpx
          go_wp2_with fail
          refine ((H5 _).out).mono ?_
          rintro e w1 ⟨rfl, rfl⟩
          clear H5
          go_wp2
          go_round
          case rel => exact ⟨10, by omega, by go_num, HN2⟩
          case measure => simp [intOf]
        · have hix := sym_ix9
          have H5 := fun W => hid (hasP D ⟨#[61]⟩ W hpx)
          have hxx := find_found (k := 9) (by omega) (fun j hj => HN.out j hj (by omega)) hpx a
          rw [HX.out] at hxx
          subst hxx
          clear HN HX hpx
          go_wp2_with fail
          refine ((H5 _).out).mono ?_
          rintro e w1 ⟨rfl, rfl⟩
          clear H5
          go_wp2_with (refine wpList_store_res rfl rfl rfl rfl hz infoTok rfl rfl ?_; intro w9 hz9 hb9)
          refine bodyPost_ret (by simp [results, Tryz.results81, go_sem, cell_res hz9]; rfl) rfl ?_
          exact ⟨rfl, k0.trans hb9⟩
      · cases hpx : (⟨#[60]⟩ : ByteArray).data.toList.isPrefixOf D.data.toList
        · have hix := sym_ix10
          have H5 := fun W => hid (hasP D ⟨#[60]⟩ W hpx)
          have HN2 : Hid (∀ j (_ : j < 11) (h : j < 12), (symB[j]'h).data.toList.isPrefixOf D.data.toList = false) := hid (fun j hj h => by
            by_cases e : j = 10
            · subst e; exact hpx
            · exact HN.out j (by omega) h)
          clear HN HX hpx
          go_wp2_with fail
          refine ((H5 _).out).mono ?_
          rintro e w1 ⟨rfl, rfl⟩
          clear H5
          go_wp2
          go_round
          case rel => exact ⟨11, by omega, by go_num, HN2⟩
          case measure => simp [intOf]
        · have hix := sym_ix10
          have H5 := fun W => hid (hasP D ⟨#[60]⟩ W hpx)
          have hxx := find_found (k := 10) (by omega) (fun j hj => HN.out j hj (by omega)) hpx a
          rw [HX.out] at hxx
          subst hxx
          clear HN HX hpx
          go_wp2_with fail
          refine ((H5 _).out).mono ?_
          rintro e w1 ⟨rfl, rfl⟩
          clear H5
          go_wp2_with (refine wpList_store_res rfl rfl rfl rfl hz infoTok rfl rfl ?_; intro w9 hz9 hb9)
          refine bodyPost_ret (by simp [results, Tryz.results81, go_sem, cell_res hz9]; rfl) rfl ?_
          exact ⟨rfl, k0.trans hb9⟩
      · cases hpx : (⟨#[62]⟩ : ByteArray).data.toList.isPrefixOf D.data.toList
        · have hix := sym_ix11
          have H5 := fun W => hid (hasP D ⟨#[62]⟩ W hpx)
          have HN2 : Hid (∀ j (_ : j < 12) (h : j < 12), (symB[j]'h).data.toList.isPrefixOf D.data.toList = false) := hid (fun j hj h => by
            by_cases e : j = 11
            · subst e; exact hpx
            · exact HN.out j (by omega) h)
          clear HN HX hpx
          go_wp2_with fail
          refine ((H5 _).out).mono ?_
          rintro e w1 ⟨rfl, rfl⟩
          clear H5
          go_wp2
          go_round
          case rel => exact ⟨12, by omega, by go_num, HN2⟩
          case measure => simp [intOf]
        · have hix := sym_ix11
          have H5 := fun W => hid (hasP D ⟨#[62]⟩ W hpx)
          have hxx := find_found (k := 11) (by omega) (fun j hj => HN.out j hj (by omega)) hpx a
          rw [HX.out] at hxx
          subst hxx
          clear HN HX hpx
          go_wp2_with fail
          refine ((H5 _).out).mono ?_
          rintro e w1 ⟨rfl, rfl⟩
          clear H5
          go_wp2_with (refine wpList_store_res rfl rfl rfl rfl hz infoTok rfl rfl ?_; intro w9 hz9 hb9)
          refine bodyPost_ret (by simp [results, Tryz.results81, go_sem, cell_res hz9]; rfl) rfl ?_
          exact ⟨rfl, k0.trans hb9⟩
    · obtain rfl : k = 12 := by omega
      have hxx := find_none (fun j h => HN.out j h h) (a : Int)
      rw [HX.out] at hxx
      subst hxx
      clear HN HX
      go_wp2_with (refine wpList_store_res rfl rfl rfl rfl hz infoTok rfl rfl ?_; intro w9 hz9 hb9)
      refine bodyPost_ret (by simp [results, Tryz.results81, go_sem, cell_res hz9]; rfl) rfl ?_
      exact ⟨rfl, k0.trans hb9⟩
end
end Go.Proofs.YtjhnopnppimnhaaGreatDoor
