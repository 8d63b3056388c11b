/-
  WALK: the document's sameRule of layer 19, at two copies of one rule.
-/
import Derived.Test.YtgeapgbebbapmaaDoorSm2
import Derived.Test.YtgeapgbebbapmaaDoorReg
import Derived.Test.YtgeapgbebbapmaaDoorReg2
import Derived.Test.YtgeapgbebbapmaaDoorRenK
import Derived.Deep.DeepCutAuto
namespace Go.Proofs.YtgeapgbebbapmaaDoor
open Go.RowKit

theorem upt {d : Nat → Bool} {i j : Nat} (hne : (j == i) = false) (h : upd d i j = true) : d j = true := by
  unfold upd at h
  rw [if_neg (by simpa using hne)] at h
  exact h
theorem infoAtmSz : (Tryd.prog.info? 60).map (·.size) = some 3 := by kernel_rfl

set_option maxRecDepth 100000 in
set_option pp.maxSteps 1000000 in
set_option pp.deepTerms true in
set_option maxHeartbeats 8000000 in
theorem same_rule (r : Rul) (TA TB TC TD : Option Addr) (ca cb cc cd : Nat) (w : World) (h1 : AtmsAt w TA r.atoms) (h2 : AtmsAt w TB r.atoms) (h3 : CndsAt w TC r.conds) (h4 : CndsAt w TD r.conds) (hm : r.atoms.length ≤ 9223372036854775807) (hm' : r.conds.length ≤ 9223372036854775807) :
    Calls Tryd.prog 49 #[.agg #[.slice TA r.atoms.length ca, .slice TC r.conds.length cc], .agg #[.slice TB r.atoms.length cb, .slice TD r.conds.length cd]] w fun e w' => e = .returned (.bool true) ∧ Below w.heap.size w w' := by
  obtain ⟨a0, ha0, ha1, ha2, ha3⟩ := info_parts infoAtmN
  obtain ⟨n, hn⟩ : ∃ n, r.atoms.length = n := ⟨_, rfl⟩
  obtain ⟨n2, hn2⟩ : ∃ n, r.conds.length = n := ⟨_, rfl⟩
  rw [hn] at hm ⊢
  rw [hn2] at hm' ⊢
  have H1 := hid h1
  have H2 := hid h2
  have H3 := hid h3
  have H4 := hid h4
  have HN := hid hn
  have HN2 := hid hn2
  clear h1 h2 h3 h4 hn hn2
  have HB0 : Hid (Below (w.heap.size + 2) ((w.alloc (.cells #[.slice TA n ca, .slice TC n2 cc] 49)).alloc (.cells #[.slice TB n cb, .slice TD n2 cd] 49)) ((w.alloc (.cells #[.slice TA n ca, .slice TC n2 cc] 49)).alloc (.cells #[.slice TB n cb, .slice TD n2 cd] 49))) := hid (Below.refl _ _)
  obtain ⟨b0, b1, bsz, bbel⟩ := two_blocks19 HB0.out
  have r0 := coh b0 (o := 0) rfl
  have r1 := coh b0 (o := 1) rfl
  have r2 := coh b1 (o := 0) rfl
  have r3 := coh b1 (o := 1) rfl
  clear b0 b1 bbel
  have l0 : w.heap.size < ((w.alloc (.cells #[.slice TA n ca, .slice TC n2 cc] 49)).alloc (.cells #[.slice TB n cb, .slice TD n2 cd] 49)).heap.size := by omega
  have l1 : w.heap.size + 1 < ((w.alloc (.cells #[.slice TA n ca, .slice TC n2 cc] 49)).alloc (.cells #[.slice TB n cb, .slice TD n2 cd] 49)).heap.size := by omega
  go_enter Tryd.func49, Tryd.ntmps49
  go_wp2
  clear r0 r1 r2 r3 bsz l0 l1
  go_loopw [5] (fun i wr => ∃ k : Nat, k ≤ n ∧ i = .int .i64 k ∧ Hid (Below (w.heap.size + 2) ((w.alloc (.cells #[.slice TA n ca, .slice TC n2 cc] 49)).alloc (.cells #[.slice TB n cb, .slice TD n2 cd] 49)) wr)) (fun i _ => n - (intOf i).toNat)
  case atStart => exact ⟨0, by omega, rfl, HB0⟩
  case round =>
    obtain ⟨k, hk, rfl, HB⟩ := hrel
    clear HB0
    obtain ⟨b0, b1, bsz, hbel⟩ := two_blocks19 HB.out
    have r0 := coh b0 (o := 0) rfl
    have r1 := coh b0 (o := 1) rfl
    have r2 := coh b1 (o := 0) rfl
    have r3 := coh b1 (o := 1) rfl
    have l0 : w.heap.size < wr.heap.size := by omega
    have l1 : w.heap.size + 1 < wr.heap.size := by omega
    have HBel := hid hbel
    clear b0 b1 bsz
    by_cases hlt : k < n
    · have hll : k < r.atoms.length := by rw [HN.out]; exact hlt
      obtain ⟨b, o, rfl, hc⟩ := H1.out (by omega)
      obtain ⟨b', o', rfl, hc'⟩ := H2.out (by omega)
      obtain ⟨Q, qc, c0, c1, c2, ht, _, hts⟩ := hc k hll
      obtain ⟨Q', qc', c3, c4, c5, ht', _, _⟩ := hc' k hll
      replace c0 := cell_keep hbel c0
      replace c1 := cell_keep hbel c1
      replace c2 := cell_keep hbel c2
      replace c3 := cell_keep hbel c3
      replace c4 := cell_keep hbel c4
      replace c5 := cell_keep hbel c5
      obtain ⟨a, ea⟩ : ∃ a, r.atoms[k] = a := ⟨_, rfl⟩
      rw [ea] at c0 c1 c2 c3 c4 c5 ht ht' hts
      obtain ⟨neg, rel, ts⟩ := a
      simp only at c0 c1 c2 c3 c4 c5 ht ht' hts
      obtain ⟨X, hX⟩ : ∃ Y : ByteArray, (⟨rel.toArray⟩ : ByteArray) = Y := ⟨_, rfl⟩
      rw [hX] at c1 c4
      obtain ⟨m, hm0⟩ : ∃ n, ts.length = n := ⟨_, rfl⟩
      have HM := hid hm0
      rw [hm0] at c2 c5 hts
      have HT := hid ht
      have HT' := hid ht'
      have hb : (X.toList == X.toList) = true := by simp
      clear hc hc' ea hX hm0 ht ht'
      go_upto_region 6 with fail
      refine wp_region_inv3 (fun d ac w9 => ∃ x33 x34 x35 x36 x37 x38 x39 x40 x41 x42 x6 x7 : Value, ac = { tmps := List.toArray ((Value.agg #[Value.slice (some { block := b, off := o }) n ca, Value.slice TC n2 cc]) :: (Value.agg #[Value.slice (some { block := b', off := o' }) n cb, Value.slice TD n2 cd]) :: (Value.pointer (some { block := w.heap.size, off := 0 })) :: (Value.pointer (some { block := w.heap.size + 1, off := 0 })) :: u4 :: (Value.int IntKind.i64 ↑k) :: x6 :: x7 :: u8 :: undef :: (Value.pointer (some { block := w.heap.size, off := 0 })) :: (Value.slice (some { block := b, off := o }) n ca) :: (Value.int IntKind.i64 ↑n) :: (Value.pointer (some { block := w.heap.size + 1, off := 0 })) :: (Value.slice (some { block := b', off := o' }) n cb) :: (Value.int IntKind.i64 ↑n) :: (Value.bool false) :: (Value.bool false) :: (Value.pointer (some { block := w.heap.size, off := 1 })) :: (Value.slice TC n2 cc) :: (Value.int IntKind.i64 ↑n2) :: (Value.pointer (some { block := w.heap.size + 1, off := 1 })) :: (Value.slice TD n2 cd) :: (Value.int IntKind.i64 ↑n2) :: (Value.bool false) :: (Value.bool false) :: (Value.int IntKind.i64 ↑k) :: (Value.pointer (some { block := w.heap.size, off := 0 })) :: (Value.slice (some { block := b, off := o }) n ca) :: (Value.int IntKind.i64 ↑n) :: (Value.bool true) :: u31 :: u32 :: x33 :: x34 :: x35 :: x36 :: x37 :: x38 :: x39 :: x40 :: x41 :: x42 :: u43 :: u44 :: u45 :: u46 :: u47 :: u48 :: u49 :: u50 :: u51 :: u52 :: u53 :: u54 :: u55 :: u56 :: u57 :: u58 :: u59 :: u60 :: u61 :: u62 :: u63 :: u64 :: u65 :: u66 :: u67 :: u68 :: u69 :: u70 :: u71 :: u72 :: u73 :: u74 :: u75 :: u76 :: u77 :: u78 :: u79 :: u80 :: u81 :: undef :: undef :: undef :: undef :: undef :: undef :: undef :: undef :: undef :: undef :: undef :: undef :: undef :: undef :: undef :: undef :: undef :: undef :: []), defers := [] } ∧ Hid (Below wr.heap.size wr w9) ∧ Hid (d 10 = true → d 11 = true → x6 ≠ x7) ∧ Hid (d 0 = true → x33 = .pointer (some ⟨w.heap.size, 0, none⟩)) ∧ Hid (d 1 = true → x34 = .slice (some ⟨b, o, none⟩) n ca) ∧ Hid (d 2 = true → x35 = .int .i64 k) ∧ Hid (d 3 = true → x36 = .pointer (some ⟨b, o + k * 3, none⟩)) ∧ Hid (d 4 = true → x37 = .agg #[.bool neg, .string X, .slice Q m qc]) ∧ Hid (d 5 = true → x38 = .pointer (some ⟨w.heap.size + 1, 0, none⟩)) ∧ Hid (d 6 = true → x39 = .slice (some ⟨b', o', none⟩) n cb) ∧ Hid (d 7 = true → x40 = .int .i64 k) ∧ Hid (d 8 = true → x41 = .pointer (some ⟨b', o' + k * 3, none⟩)) ∧ Hid (d 9 = true → x42 = .agg #[.bool neg, .string X, .slice Q' m qc']) ∧ Hid (d 10 = true → ∃ g, x6 = .pointer (some ⟨g, 0, none⟩) ∧ wr.heap.size ≤ g ∧ g < w9.heap.size ∧ (d 12 = false → w9.heap[g]? = some (.cells #[.bool false, .string ⟨#[]⟩, .slice none 0 0] 60 (0, 0)))) ∧ Hid (d 11 = true → ∃ g, x7 = .pointer (some ⟨g, 0, none⟩) ∧ wr.heap.size ≤ g ∧ g < w9.heap.size ∧ (d 13 = false → w9.heap[g]? = some (.cells #[.bool false, .string ⟨#[]⟩, .slice none 0 0] 60 (0, 0)))) ∧ Hid (d 12 = true → ∃ g, x6 = .pointer (some ⟨g, 0, none⟩) ∧ wr.heap.size ≤ g ∧ w9.heap[g]? = some (.cells #[.bool neg, .string X, .slice Q m qc] 60 (0, 0))) ∧ Hid (d 13 = true → ∃ g, x7 = .pointer (some ⟨g, 0, none⟩) ∧ wr.heap.size ≤ g ∧ w9.heap[g]? = some (.cells #[.bool neg, .string X, .slice Q' m qc'] 60 (0, 0)))) (by kernel_rfl) (by kernel_rfl) ?h0 ?hst ?fin
      case h0 => exact ⟨_, _, _, _, _, _, _, _, _, _, _, _, rfl, hid (Below.drew (Below.refl _ _)), hid (fun h => absurd h (by decide)), hid (fun h => absurd h (by decide)), hid (fun h => absurd h (by decide)), hid (fun h => absurd h (by decide)), hid (fun h => absurd h (by decide)), hid (fun h => absurd h (by decide)), hid (fun h => absurd h (by decide)), hid (fun h => absurd h (by decide)), hid (fun h => absurd h (by decide)), hid (fun h => absurd h (by decide)), hid (fun h => absurd h (by decide)), hid (fun h => absurd h (by decide)), hid (fun h => absurd h (by decide)), hid (fun h => absurd h (by decide)), hid (fun h => absurd h (by decide))⟩
      case hst =>
        refine ⟨?_, ?_, ?_, ?_, ?_, ?_, ?_, ?_, ?_, ?_, ?_, ?_, ?_, ?_, trivial⟩
        · rintro d ac w9 ⟨x33, x34, x35, x36, x37, x38, x39, x40, x41, x42, x6, x7, rfl, HB9, HNE, f0, f1, f2, f3, f4, f5, f6, f7, f8, f9, f10, f11, f12, f13⟩ hcl hdk haft
          have HDK := hid hdk
          clear  hdk haft hcl
          go_wp2
          exact rthenK_n ⟨_, _, _, _, _, _, _, _, _, _, _, _, rfl, hid (HB9.out.trans ((Below.refl w9.heap.size w9).mono HB9.out.size)), hid (fun h h' => HNE.out (upt rfl h) (upt rfl h')), rnf rfl, rkf rfl f1 (fun h => by first | exact h | exact rfl), rkf rfl f2 (fun h => by first | exact h | exact rfl), rkf rfl f3 (fun h => by first | exact h | exact rfl), rkf rfl f4 (fun h => by first | exact h | exact rfl), rkf rfl f5 (fun h => by first | exact h | exact rfl), rkf rfl f6 (fun h => by first | exact h | exact rfl), rkf rfl f7 (fun h => by first | exact h | exact rfl), rkf rfl f8 (fun h => by first | exact h | exact rfl), rkf rfl f9 (fun h => by first | exact h | exact rfl), rkf rfl f10 (fun h => (by obtain ⟨g, e1, e2, e3, e4⟩ := h; exact ⟨g, e1, e2, e3, fun h15 => e4 (runupd rfl h15)⟩)), rkf rfl f11 (fun h => (by obtain ⟨g, e1, e2, e3, e4⟩ := h; exact ⟨g, e1, e2, e3, fun h15 => e4 (runupd rfl h15)⟩)), rkf rfl f12 (fun h => by first | exact h | exact rfl), rkf rfl f13 (fun h => by first | exact h | exact rfl)⟩
        · rintro d ac w9 ⟨x33, x34, x35, x36, x37, x38, x39, x40, x41, x42, x6, x7, rfl, HB9, HNE, f0, f1, f2, f3, f4, f5, f6, f7, f8, f9, f10, f11, f12, f13⟩ hcl hdk haft
          have h0 := haft ⟨0, .data⟩ (by simp) rfl
          obtain rfl := f0.out h0
          have r0 := cell_keep HB9.out r0
          have l0 : w.heap.size < w9.heap.size := Nat.lt_of_lt_of_le l0 HB9.out.size
          have HDK := hid hdk
          clear h0 hdk haft hcl
          go_wp2
          exact rthenK_n ⟨_, _, _, _, _, _, _, _, _, _, _, _, rfl, hid (HB9.out.trans ((Below.refl w9.heap.size w9).mono HB9.out.size)), hid (fun h h' => HNE.out (upt rfl h) (upt rfl h')), rkf rfl f0 (fun h => by first | exact h | exact rfl), rnf rfl, rkf rfl f2 (fun h => by first | exact h | exact rfl), rkf rfl f3 (fun h => by first | exact h | exact rfl), rkf rfl f4 (fun h => by first | exact h | exact rfl), rkf rfl f5 (fun h => by first | exact h | exact rfl), rkf rfl f6 (fun h => by first | exact h | exact rfl), rkf rfl f7 (fun h => by first | exact h | exact rfl), rkf rfl f8 (fun h => by first | exact h | exact rfl), rkf rfl f9 (fun h => by first | exact h | exact rfl), rkf rfl f10 (fun h => (by obtain ⟨g, e1, e2, e3, e4⟩ := h; exact ⟨g, e1, e2, e3, fun h15 => e4 (runupd rfl h15)⟩)), rkf rfl f11 (fun h => (by obtain ⟨g, e1, e2, e3, e4⟩ := h; exact ⟨g, e1, e2, e3, fun h15 => e4 (runupd rfl h15)⟩)), rkf rfl f12 (fun h => by first | exact h | exact rfl), rkf rfl f13 (fun h => by first | exact h | exact rfl)⟩
        · rintro d ac w9 ⟨x33, x34, x35, x36, x37, x38, x39, x40, x41, x42, x6, x7, rfl, HB9, HNE, f0, f1, f2, f3, f4, f5, f6, f7, f8, f9, f10, f11, f12, f13⟩ hcl hdk haft
          have HDK := hid hdk
          clear  hdk haft hcl
          go_wp2
          exact rthenK_n ⟨_, _, _, _, _, _, _, _, _, _, _, _, rfl, hid (HB9.out.trans ((Below.refl w9.heap.size w9).mono HB9.out.size)), hid (fun h h' => HNE.out (upt rfl h) (upt rfl h')), rkf rfl f0 (fun h => by first | exact h | exact rfl), rkf rfl f1 (fun h => by first | exact h | exact rfl), rnf rfl, rkf rfl f3 (fun h => by first | exact h | exact rfl), rkf rfl f4 (fun h => by first | exact h | exact rfl), rkf rfl f5 (fun h => by first | exact h | exact rfl), rkf rfl f6 (fun h => by first | exact h | exact rfl), rkf rfl f7 (fun h => by first | exact h | exact rfl), rkf rfl f8 (fun h => by first | exact h | exact rfl), rkf rfl f9 (fun h => by first | exact h | exact rfl), rkf rfl f10 (fun h => (by obtain ⟨g, e1, e2, e3, e4⟩ := h; exact ⟨g, e1, e2, e3, fun h15 => e4 (runupd rfl h15)⟩)), rkf rfl f11 (fun h => (by obtain ⟨g, e1, e2, e3, e4⟩ := h; exact ⟨g, e1, e2, e3, fun h15 => e4 (runupd rfl h15)⟩)), rkf rfl f12 (fun h => by first | exact h | exact rfl), rkf rfl f13 (fun h => by first | exact h | exact rfl)⟩
        · rintro d ac w9 ⟨x33, x34, x35, x36, x37, x38, x39, x40, x41, x42, x6, x7, rfl, HB9, HNE, f0, f1, f2, f3, f4, f5, f6, f7, f8, f9, f10, f11, f12, f13⟩ hcl hdk haft
          have h1 := haft ⟨1, .data⟩ (by simp) rfl
          have h2 := haft ⟨2, .data⟩ (by simp) rfl
          obtain rfl := f1.out h1
          obtain rfl := f2.out h2
          have HDK := hid hdk
          clear h1 h2 hdk haft hcl
          go_wp2
          exact rthenK_n ⟨_, _, _, _, _, _, _, _, _, _, _, _, rfl, hid (HB9.out.trans ((Below.refl w9.heap.size w9).mono HB9.out.size)), hid (fun h h' => HNE.out (upt rfl h) (upt rfl h')), rkf rfl f0 (fun h => by first | exact h | exact rfl), rkf rfl f1 (fun h => by first | exact h | exact rfl), rkf rfl f2 (fun h => by first | exact h | exact rfl), rnf rfl, rkf rfl f4 (fun h => by first | exact h | exact rfl), rkf rfl f5 (fun h => by first | exact h | exact rfl), rkf rfl f6 (fun h => by first | exact h | exact rfl), rkf rfl f7 (fun h => by first | exact h | exact rfl), rkf rfl f8 (fun h => by first | exact h | exact rfl), rkf rfl f9 (fun h => by first | exact h | exact rfl), rkf rfl f10 (fun h => (by obtain ⟨g, e1, e2, e3, e4⟩ := h; exact ⟨g, e1, e2, e3, fun h15 => e4 (runupd rfl h15)⟩)), rkf rfl f11 (fun h => (by obtain ⟨g, e1, e2, e3, e4⟩ := h; exact ⟨g, e1, e2, e3, fun h15 => e4 (runupd rfl h15)⟩)), rkf rfl f12 (fun h => by first | exact h | exact rfl), rkf rfl f13 (fun h => by first | exact h | exact rfl)⟩
        · rintro d ac w9 ⟨x33, x34, x35, x36, x37, x38, x39, x40, x41, x42, x6, x7, rfl, HB9, HNE, f0, f1, f2, f3, f4, f5, f6, f7, f8, f9, f10, f11, f12, f13⟩ hcl hdk haft
          have h3 := haft ⟨3, .data⟩ (by simp) rfl
          obtain rfl := f3.out h3
          have c0 := cell_keep HB9.out c0
          have c1 := cell_keep HB9.out c1
          have c2 := cell_keep HB9.out c2
          have HDK := hid hdk
          clear h3 hdk haft hcl
          go_wp2
          exact rthenK_n ⟨_, _, _, _, _, _, _, _, _, _, _, _, rfl, hid (HB9.out.trans ((Below.refl w9.heap.size w9).mono HB9.out.size)), hid (fun h h' => HNE.out (upt rfl h) (upt rfl h')), rkf rfl f0 (fun h => by first | exact h | exact rfl), rkf rfl f1 (fun h => by first | exact h | exact rfl), rkf rfl f2 (fun h => by first | exact h | exact rfl), rkf rfl f3 (fun h => by first | exact h | exact rfl), rnf rfl, rkf rfl f5 (fun h => by first | exact h | exact rfl), rkf rfl f6 (fun h => by first | exact h | exact rfl), rkf rfl f7 (fun h => by first | exact h | exact rfl), rkf rfl f8 (fun h => by first | exact h | exact rfl), rkf rfl f9 (fun h => by first | exact h | exact rfl), rkf rfl f10 (fun h => (by obtain ⟨g, e1, e2, e3, e4⟩ := h; exact ⟨g, e1, e2, e3, fun h15 => e4 (runupd rfl h15)⟩)), rkf rfl f11 (fun h => (by obtain ⟨g, e1, e2, e3, e4⟩ := h; exact ⟨g, e1, e2, e3, fun h15 => e4 (runupd rfl h15)⟩)), rkf rfl f12 (fun h => by first | exact h | exact rfl), rkf rfl f13 (fun h => by first | exact h | exact rfl)⟩
        · rintro d ac w9 ⟨x33, x34, x35, x36, x37, x38, x39, x40, x41, x42, x6, x7, rfl, HB9, HNE, f0, f1, f2, f3, f4, f5, f6, f7, f8, f9, f10, f11, f12, f13⟩ hcl hdk haft
          have HDK := hid hdk
          clear  hdk haft hcl
          go_wp2
          exact rthenK_n ⟨_, _, _, _, _, _, _, _, _, _, _, _, rfl, hid (HB9.out.trans ((Below.refl w9.heap.size w9).mono HB9.out.size)), hid (fun h h' => HNE.out (upt rfl h) (upt rfl h')), rkf rfl f0 (fun h => by first | exact h | exact rfl), rkf rfl f1 (fun h => by first | exact h | exact rfl), rkf rfl f2 (fun h => by first | exact h | exact rfl), rkf rfl f3 (fun h => by first | exact h | exact rfl), rkf rfl f4 (fun h => by first | exact h | exact rfl), rnf rfl, rkf rfl f6 (fun h => by first | exact h | exact rfl), rkf rfl f7 (fun h => by first | exact h | exact rfl), rkf rfl f8 (fun h => by first | exact h | exact rfl), rkf rfl f9 (fun h => by first | exact h | exact rfl), rkf rfl f10 (fun h => (by obtain ⟨g, e1, e2, e3, e4⟩ := h; exact ⟨g, e1, e2, e3, fun h15 => e4 (runupd rfl h15)⟩)), rkf rfl f11 (fun h => (by obtain ⟨g, e1, e2, e3, e4⟩ := h; exact ⟨g, e1, e2, e3, fun h15 => e4 (runupd rfl h15)⟩)), rkf rfl f12 (fun h => by first | exact h | exact rfl), rkf rfl f13 (fun h => by first | exact h | exact rfl)⟩
        · rintro d ac w9 ⟨x33, x34, x35, x36, x37, x38, x39, x40, x41, x42, x6, x7, rfl, HB9, HNE, f0, f1, f2, f3, f4, f5, f6, f7, f8, f9, f10, f11, f12, f13⟩ hcl hdk haft
          have h5 := haft ⟨5, .data⟩ (by simp) rfl
          obtain rfl := f5.out h5
          have r2 := cell_keep HB9.out r2
          have l1 : w.heap.size + 1 < w9.heap.size := Nat.lt_of_lt_of_le l1 HB9.out.size
          have HDK := hid hdk
          clear h5 hdk haft hcl
          go_wp2
          exact rthenK_n ⟨_, _, _, _, _, _, _, _, _, _, _, _, rfl, hid (HB9.out.trans ((Below.refl w9.heap.size w9).mono HB9.out.size)), hid (fun h h' => HNE.out (upt rfl h) (upt rfl h')), rkf rfl f0 (fun h => by first | exact h | exact rfl), rkf rfl f1 (fun h => by first | exact h | exact rfl), rkf rfl f2 (fun h => by first | exact h | exact rfl), rkf rfl f3 (fun h => by first | exact h | exact rfl), rkf rfl f4 (fun h => by first | exact h | exact rfl), rkf rfl f5 (fun h => by first | exact h | exact rfl), rnf rfl, rkf rfl f7 (fun h => by first | exact h | exact rfl), rkf rfl f8 (fun h => by first | exact h | exact rfl), rkf rfl f9 (fun h => by first | exact h | exact rfl), rkf rfl f10 (fun h => (by obtain ⟨g, e1, e2, e3, e4⟩ := h; exact ⟨g, e1, e2, e3, fun h15 => e4 (runupd rfl h15)⟩)), rkf rfl f11 (fun h => (by obtain ⟨g, e1, e2, e3, e4⟩ := h; exact ⟨g, e1, e2, e3, fun h15 => e4 (runupd rfl h15)⟩)), rkf rfl f12 (fun h => by first | exact h | exact rfl), rkf rfl f13 (fun h => by first | exact h | exact rfl)⟩
        · rintro d ac w9 ⟨x33, x34, x35, x36, x37, x38, x39, x40, x41, x42, x6, x7, rfl, HB9, HNE, f0, f1, f2, f3, f4, f5, f6, f7, f8, f9, f10, f11, f12, f13⟩ hcl hdk haft
          have HDK := hid hdk
          clear  hdk haft hcl
          go_wp2
          exact rthenK_n ⟨_, _, _, _, _, _, _, _, _, _, _, _, rfl, hid (HB9.out.trans ((Below.refl w9.heap.size w9).mono HB9.out.size)), hid (fun h h' => HNE.out (upt rfl h) (upt rfl h')), rkf rfl f0 (fun h => by first | exact h | exact rfl), rkf rfl f1 (fun h => by first | exact h | exact rfl), rkf rfl f2 (fun h => by first | exact h | exact rfl), rkf rfl f3 (fun h => by first | exact h | exact rfl), rkf rfl f4 (fun h => by first | exact h | exact rfl), rkf rfl f5 (fun h => by first | exact h | exact rfl), rkf rfl f6 (fun h => by first | exact h | exact rfl), rnf rfl, rkf rfl f8 (fun h => by first | exact h | exact rfl), rkf rfl f9 (fun h => by first | exact h | exact rfl), rkf rfl f10 (fun h => (by obtain ⟨g, e1, e2, e3, e4⟩ := h; exact ⟨g, e1, e2, e3, fun h15 => e4 (runupd rfl h15)⟩)), rkf rfl f11 (fun h => (by obtain ⟨g, e1, e2, e3, e4⟩ := h; exact ⟨g, e1, e2, e3, fun h15 => e4 (runupd rfl h15)⟩)), rkf rfl f12 (fun h => by first | exact h | exact rfl), rkf rfl f13 (fun h => by first | exact h | exact rfl)⟩
        · rintro d ac w9 ⟨x33, x34, x35, x36, x37, x38, x39, x40, x41, x42, x6, x7, rfl, HB9, HNE, f0, f1, f2, f3, f4, f5, f6, f7, f8, f9, f10, f11, f12, f13⟩ hcl hdk haft
          have h6 := haft ⟨6, .data⟩ (by simp) rfl
          have h7 := haft ⟨7, .data⟩ (by simp) rfl
          obtain rfl := f6.out h6
          obtain rfl := f7.out h7
          have HDK := hid hdk
          clear h6 h7 hdk haft hcl
          go_wp2
          exact rthenK_n ⟨_, _, _, _, _, _, _, _, _, _, _, _, rfl, hid (HB9.out.trans ((Below.refl w9.heap.size w9).mono HB9.out.size)), hid (fun h h' => HNE.out (upt rfl h) (upt rfl h')), rkf rfl f0 (fun h => by first | exact h | exact rfl), rkf rfl f1 (fun h => by first | exact h | exact rfl), rkf rfl f2 (fun h => by first | exact h | exact rfl), rkf rfl f3 (fun h => by first | exact h | exact rfl), rkf rfl f4 (fun h => by first | exact h | exact rfl), rkf rfl f5 (fun h => by first | exact h | exact rfl), rkf rfl f6 (fun h => by first | exact h | exact rfl), rkf rfl f7 (fun h => by first | exact h | exact rfl), rnf rfl, rkf rfl f9 (fun h => by first | exact h | exact rfl), rkf rfl f10 (fun h => (by obtain ⟨g, e1, e2, e3, e4⟩ := h; exact ⟨g, e1, e2, e3, fun h15 => e4 (runupd rfl h15)⟩)), rkf rfl f11 (fun h => (by obtain ⟨g, e1, e2, e3, e4⟩ := h; exact ⟨g, e1, e2, e3, fun h15 => e4 (runupd rfl h15)⟩)), rkf rfl f12 (fun h => by first | exact h | exact rfl), rkf rfl f13 (fun h => by first | exact h | exact rfl)⟩
        · rintro d ac w9 ⟨x33, x34, x35, x36, x37, x38, x39, x40, x41, x42, x6, x7, rfl, HB9, HNE, f0, f1, f2, f3, f4, f5, f6, f7, f8, f9, f10, f11, f12, f13⟩ hcl hdk haft
          have h8 := haft ⟨8, .data⟩ (by simp) rfl
          obtain rfl := f8.out h8
          have c3 := cell_keep HB9.out c3
          have c4 := cell_keep HB9.out c4
          have c5 := cell_keep HB9.out c5
          have HDK := hid hdk
          clear h8 hdk haft hcl
          go_wp2
          exact rthenK_n ⟨_, _, _, _, _, _, _, _, _, _, _, _, rfl, hid (HB9.out.trans ((Below.refl w9.heap.size w9).mono HB9.out.size)), hid (fun h h' => HNE.out (upt rfl h) (upt rfl h')), rkf rfl f0 (fun h => by first | exact h | exact rfl), rkf rfl f1 (fun h => by first | exact h | exact rfl), rkf rfl f2 (fun h => by first | exact h | exact rfl), rkf rfl f3 (fun h => by first | exact h | exact rfl), rkf rfl f4 (fun h => by first | exact h | exact rfl), rkf rfl f5 (fun h => by first | exact h | exact rfl), rkf rfl f6 (fun h => by first | exact h | exact rfl), rkf rfl f7 (fun h => by first | exact h | exact rfl), rkf rfl f8 (fun h => by first | exact h | exact rfl), rnf rfl, rkf rfl f10 (fun h => (by obtain ⟨g, e1, e2, e3, e4⟩ := h; exact ⟨g, e1, e2, e3, fun h15 => e4 (runupd rfl h15)⟩)), rkf rfl f11 (fun h => (by obtain ⟨g, e1, e2, e3, e4⟩ := h; exact ⟨g, e1, e2, e3, fun h15 => e4 (runupd rfl h15)⟩)), rkf rfl f12 (fun h => by first | exact h | exact rfl), rkf rfl f13 (fun h => by first | exact h | exact rfl)⟩
        · rintro d ac w9 ⟨x33, x34, x35, x36, x37, x38, x39, x40, x41, x42, x6, x7, rfl, HB9, HNE, f0, f1, f2, f3, f4, f5, f6, f7, f8, f9, f10, f11, f12, f13⟩ hcl hdk haft
          have HO := hid (show ∀ g, d 11 = true → x7 = .pointer (some ⟨g, 0, none⟩) → g < w9.heap.size from fun g h e => (by obtain ⟨g2, e2, _, hl, _⟩ := f11.out h; rw [e2] at e; injection e with e; injection e with e; injection e with e; omega))
          have HC13 := hid (fun h : d 13 = true => hcl 13 _ rfl h ⟨11, .data⟩ (by simp) rfl)
          have HN12 := hid (show d 12 = true → False from fun h => absurd ((hcl 12 _ rfl h ⟨10, .data⟩ (by simp) rfl).symm.trans hdk) (by decide))
          have HDK := hid hdk
          clear  hdk haft hcl
          go_wp2
          exact rthenK_n ⟨_, _, _, _, _, _, _, _, _, _, _, _, rfl, hid (HB9.out.trans ((below_one w9 _).mono HB9.out.size)), hid (fun _ h' e => absurd (HO.out w9.heap.size (upt rfl h') e.symm) (by omega)), rkf rfl f0 (fun h => by first | exact h | exact rfl), rkf rfl f1 (fun h => by first | exact h | exact rfl), rkf rfl f2 (fun h => by first | exact h | exact rfl), rkf rfl f3 (fun h => by first | exact h | exact rfl), rkf rfl f4 (fun h => by first | exact h | exact rfl), rkf rfl f5 (fun h => by first | exact h | exact rfl), rkf rfl f6 (fun h => by first | exact h | exact rfl), rkf rfl f7 (fun h => by first | exact h | exact rfl), rkf rfl f8 (fun h => by first | exact h | exact rfl), rkf rfl f9 (fun h => by first | exact h | exact rfl), rnf ⟨_, rfl, HB9.out.size, (by simp), fun _ => heap_alloc_new w9 _⟩, rkf rfl f11 (fun h => (by obtain ⟨g, e1, e2, e3, e4⟩ := h; exact ⟨g, e1, e2, Nat.lt_of_lt_of_le e3 (below_one w9 _).size, fun h15 => res_keep' (e4 (runupd rfl h15)) (below_one w9 _) e3⟩)), hid (fun h => (HN12.out (upt rfl h)).elim), rkf rfl f13 (fun h => (by obtain ⟨g, e1, e2, e3⟩ := h; exact ⟨g, e1, e2, res_keep' e3 (below_one w9 _) (lt_of_block e3)⟩))⟩
        · rintro d ac w9 ⟨x33, x34, x35, x36, x37, x38, x39, x40, x41, x42, x6, x7, rfl, HB9, HNE, f0, f1, f2, f3, f4, f5, f6, f7, f8, f9, f10, f11, f12, f13⟩ hcl hdk haft
          have HO := hid (show ∀ g, d 10 = true → x6 = .pointer (some ⟨g, 0, none⟩) → g < w9.heap.size from fun g h e => (by obtain ⟨g2, e2, _, hl, _⟩ := f10.out h; rw [e2] at e; injection e with e; injection e with e; injection e with e; omega))
          have HC12 := hid (fun h : d 12 = true => hcl 12 _ rfl h ⟨10, .data⟩ (by simp) rfl)
          have HN13 := hid (show d 13 = true → False from fun h => absurd ((hcl 13 _ rfl h ⟨11, .data⟩ (by simp) rfl).symm.trans hdk) (by decide))
          have HDK := hid hdk
          clear  hdk haft hcl
          go_wp2
          exact rthenK_n ⟨_, _, _, _, _, _, _, _, _, _, _, _, rfl, hid (HB9.out.trans ((below_one w9 _).mono HB9.out.size)), hid (fun h _ e => absurd (HO.out w9.heap.size (upt rfl h) e) (by omega)), rkf rfl f0 (fun h => by first | exact h | exact rfl), rkf rfl f1 (fun h => by first | exact h | exact rfl), rkf rfl f2 (fun h => by first | exact h | exact rfl), rkf rfl f3 (fun h => by first | exact h | exact rfl), rkf rfl f4 (fun h => by first | exact h | exact rfl), rkf rfl f5 (fun h => by first | exact h | exact rfl), rkf rfl f6 (fun h => by first | exact h | exact rfl), rkf rfl f7 (fun h => by first | exact h | exact rfl), rkf rfl f8 (fun h => by first | exact h | exact rfl), rkf rfl f9 (fun h => by first | exact h | exact rfl), rkf rfl f10 (fun h => (by obtain ⟨g, e1, e2, e3, e4⟩ := h; exact ⟨g, e1, e2, Nat.lt_of_lt_of_le e3 (below_one w9 _).size, fun h15 => res_keep' (e4 (runupd rfl h15)) (below_one w9 _) e3⟩)), rnf ⟨_, rfl, HB9.out.size, (by simp), fun _ => heap_alloc_new w9 _⟩, rkf rfl f12 (fun h => (by obtain ⟨g, e1, e2, e3⟩ := h; exact ⟨g, e1, e2, res_keep' e3 (below_one w9 _) (lt_of_block e3)⟩)), hid (fun h => (HN13.out (upt rfl h)).elim)⟩
        · rintro d ac w9 ⟨x33, x34, x35, x36, x37, x38, x39, x40, x41, x42, x6, x7, rfl, HB9, HNE, f0, f1, f2, f3, f4, f5, f6, f7, f8, f9, f10, f11, f12, f13⟩ hcl hdk haft
          have h10 := haft ⟨10, .data⟩ (by simp) rfl
          have h4 := haft ⟨4, .data⟩ (by simp) rfl
          obtain ⟨g, rfl, hg0, hg1, hg2⟩ := f10.out h10
          have HG := hid (hg2 hdk)
          have HG0 := hid hg0
          clear hg2 hg0
          obtain rfl := f4.out h4
          have hd10 := hid (haft ⟨10, .data⟩ (by simp) rfl)
          have HC13 := hid (fun h : d 13 = true => hcl 13 _ rfl h ⟨11, .data⟩ (by simp) rfl)
          have HDIS := hid (show ∀ g2, d 11 = true → x7 = .pointer (some ⟨g2, 0, none⟩) → g ≠ g2 from fun g2 h e e2 => HNE.out hd10.out h (by rw [e, e2]))
          have HDK := hid hdk
          clear h10 h4 hdk haft hcl
          go_wp2_with (refine wpList_stored2 rfl rfl rfl rfl HG.out infoAtmSz rfl rfl ?_; intro w8 hz8 hg8)
          exact rthenK_n ⟨_, _, _, _, _, _, _, _, _, _, _, _, rfl, hid (HB9.out.grown hg8 HB9.out.size (fun k e => by injection e with e; subst e; exact HG0.out)), hid (fun h h' => HNE.out (upt rfl h) (upt rfl h')), rkf rfl f0 (fun h => by first | exact h | exact rfl), rkf rfl f1 (fun h => by first | exact h | exact rfl), rkf rfl f2 (fun h => by first | exact h | exact rfl), rkf rfl f3 (fun h => by first | exact h | exact rfl), rkf rfl f4 (fun h => by first | exact h | exact rfl), rkf rfl f5 (fun h => by first | exact h | exact rfl), rkf rfl f6 (fun h => by first | exact h | exact rfl), rkf rfl f7 (fun h => by first | exact h | exact rfl), rkf rfl f8 (fun h => by first | exact h | exact rfl), rkf rfl f9 (fun h => by first | exact h | exact rfl), rkf rfl f10 (fun _ => ⟨_, rfl, HG0.out, Nat.lt_of_lt_of_le hg1 hg8.size, fun h15 => absurd h15 (fun h => rupd_self h)⟩), hid (fun hd => (by obtain ⟨g2, e1, e2, e3, e4⟩ := f11.out (upt rfl hd); exact ⟨g2, e1, e2, Nat.lt_of_lt_of_le e3 hg8.size, fun h15 => (hg8.block g2 e3 (fun e => HDIS.out g2 (upt rfl hd) e1 (by injection e with e; exact e.symm))).trans (e4 (runupd rfl h15))⟩)), rnf ⟨_, rfl, HG0.out, hz8⟩, hid (fun hd => (by obtain ⟨g2, e1, e2, e3⟩ := f13.out (upt rfl hd); exact ⟨g2, e1, e2, (hg8.block g2 (lt_of_block e3) (fun e => HDIS.out g2 (HC13.out (upt rfl hd)) e1 (by injection e with e; exact e.symm))).trans e3⟩))⟩
        · rintro d ac w9 ⟨x33, x34, x35, x36, x37, x38, x39, x40, x41, x42, x6, x7, rfl, HB9, HNE, f0, f1, f2, f3, f4, f5, f6, f7, f8, f9, f10, f11, f12, f13⟩ hcl hdk haft
          have h11 := haft ⟨11, .data⟩ (by simp) rfl
          have h9 := haft ⟨9, .data⟩ (by simp) rfl
          obtain ⟨g, rfl, hg0, hg1, hg2⟩ := f11.out h11
          have HG := hid (hg2 hdk)
          have HG0 := hid hg0
          clear hg2 hg0
          obtain rfl := f9.out h9
          have hd11 := hid (haft ⟨11, .data⟩ (by simp) rfl)
          have HC12 := hid (fun h : d 12 = true => hcl 12 _ rfl h ⟨10, .data⟩ (by simp) rfl)
          have HDIS := hid (show ∀ g2, d 10 = true → x6 = .pointer (some ⟨g2, 0, none⟩) → g ≠ g2 from fun g2 h e e2 => HNE.out h hd11.out (by rw [e, e2]))
          have HDK := hid hdk
          clear h11 h9 hdk haft hcl
          go_wp2_with (refine wpList_stored2 rfl rfl rfl rfl HG.out infoAtmSz rfl rfl ?_; intro w8 hz8 hg8)
          exact rthenK_n ⟨_, _, _, _, _, _, _, _, _, _, _, _, rfl, hid (HB9.out.grown hg8 HB9.out.size (fun k e => by injection e with e; subst e; exact HG0.out)), hid (fun h h' => HNE.out (upt rfl h) (upt rfl h')), rkf rfl f0 (fun h => by first | exact h | exact rfl), rkf rfl f1 (fun h => by first | exact h | exact rfl), rkf rfl f2 (fun h => by first | exact h | exact rfl), rkf rfl f3 (fun h => by first | exact h | exact rfl), rkf rfl f4 (fun h => by first | exact h | exact rfl), rkf rfl f5 (fun h => by first | exact h | exact rfl), rkf rfl f6 (fun h => by first | exact h | exact rfl), rkf rfl f7 (fun h => by first | exact h | exact rfl), rkf rfl f8 (fun h => by first | exact h | exact rfl), rkf rfl f9 (fun h => by first | exact h | exact rfl), hid (fun hd => (by obtain ⟨g2, e1, e2, e3, e4⟩ := f10.out (upt rfl hd); exact ⟨g2, e1, e2, Nat.lt_of_lt_of_le e3 hg8.size, fun h15 => (hg8.block g2 e3 (fun e => HDIS.out g2 (upt rfl hd) e1 (by injection e with e; exact e.symm))).trans (e4 (runupd rfl h15))⟩)), rkf rfl f11 (fun _ => ⟨_, rfl, HG0.out, Nat.lt_of_lt_of_le hg1 hg8.size, fun h15 => absurd h15 (fun h => rupd_self h)⟩), hid (fun hd => (by obtain ⟨g2, e1, e2, e3⟩ := f12.out (upt rfl hd); exact ⟨g2, e1, e2, (hg8.block g2 (lt_of_block e3) (fun e => HDIS.out g2 (HC12.out (upt rfl hd)) e1 (by injection e with e; exact e.symm))).trans e3⟩)), rnf ⟨_, rfl, HG0.out, hz8⟩⟩
      case fin =>
        rintro d ac w9 ⟨x33, x34, x35, x36, x37, x38, x39, x40, x41, x42, x6, x7, rfl, HB9, HNE, f0, f1, f2, f3, f4, f5, f6, f7, f8, f9, f10, f11, f12, f13⟩ hall
        obtain rfl := f0.out (hall 0)
        obtain rfl := f1.out (hall 1)
        obtain rfl := f2.out (hall 2)
        obtain rfl := f3.out (hall 3)
        obtain rfl := f4.out (hall 4)
        obtain rfl := f5.out (hall 5)
        obtain rfl := f6.out (hall 6)
        obtain rfl := f7.out (hall 7)
        obtain rfl := f8.out (hall 8)
        obtain rfl := f9.out (hall 9)
        obtain ⟨g6, rfl, hg6, hz6⟩ := f12.out (hall 12)
        obtain ⟨g7, rfl, hg7, hz7⟩ := f13.out (hall 13)
        clear f0 f1 f2 f3 f4 f5 f6 f7 f8 f9 f10 f11 f12 f13 HNE hall c0 c1 c2 c3 c4 c5 r0 r1 r2 r3 l0 l1
        have HZ6 := hid hz6
        have HZ7 := hid hz7
        have hb9 := HB9.out
        obtain ⟨p0, p1, p2⟩ := rcell3 hz6
        obtain ⟨p3, p4, p5⟩ := rcell3 hz7
        have pl6 := lt_of_block hz6
        have pl7 := lt_of_block hz7
        have HB2 := hid (HB.out.trans (hb9.mono (by have := HB.out.size; simp at this; omega)))
        have HBel2 := hid (HBel.out.trans (hb9.mono HBel.out.size))
        clear hz6 hz7 hb9 HB9
        generalize g6 = g6 at *
        go_wp2
        clear p0 p1 p2 p3 p4 p5
        go_loopw [8] (fun i wr => ∃ l : Nat, l ≤ m ∧ i = .int .i64 l ∧ Hid (Below w9.heap.size w9 wr)) (fun i _ => m - (intOf i).toNat)
        case atStart => exact ⟨0, by omega, rfl, hid (Below.refl _ _)⟩
        case round =>
          obtain ⟨l, hl, rfl, HB4⟩ := hrel
          have hz6 := res_keep' HZ6.out HB4.out pl6
          have hz7 := res_keep' HZ7.out HB4.out pl7
          obtain ⟨p0, p1, p2⟩ := rcell3 hz6
          obtain ⟨p3, p4, p5⟩ := rcell3 hz7
          have pm6 := lt_of_block hz6
          have pm7 := lt_of_block hz7
          have hb4 := HBel2.out.trans (HB4.out.mono HBel2.out.size)
          clear hz6 hz7
          by_cases hlm : l < m
          · have hl2 : l < ts.length := by rw [HM.out]; exact hlm
            obtain ⟨b2, o2, rfl, hc⟩ := HT.out (by omega)
            obtain ⟨b3, o3, rfl, hc'⟩ := HT'.out (by omega)
            obtain ⟨c0, c1, c2, c3⟩ := hc l hl2
            obtain ⟨e0, e1, e2, e3⟩ := hc' l hl2
            obtain ⟨t, et⟩ : ∃ t, ts[l] = t := ⟨_, rfl⟩
            rw [et] at c0 c1 c2 c3 e0 e1 e2 e3
            obtain ⟨v, ⟨ck, cn, cs⟩⟩ := t
            simp only at c0 c1 c2 c3 e0 e1 e2 e3
            obtain ⟨Z, hZ⟩ : ∃ Y : ByteArray, (⟨v.toArray⟩ : ByteArray) = Y := ⟨_, rfl⟩
            rw [hZ] at c0 e0
            replace c0 := cell_keep hb4 c0
            replace c1 := cell_keep hb4 c1
            replace c2 := cell_keep hb4 c2
            replace c3 := cell_keep hb4 c3
            replace e0 := cell_keep hb4 e0
            replace e1 := cell_keep hb4 e1
            replace e2 := cell_keep hb4 e2
            replace e3 := cell_keep hb4 e3
            have EQ := eq_trm Z ck cn cs Z ck cn cs (x := true) (by simp [veq])
            have GV := guardTrm
            clear hc hc' hZ et
            go_wp2
            go_quiet (fail)
            have HB5 := hid (below_drewN HB4.out nq)
            go_wp2
            go_roundw
            case rel => exact ⟨l + 1, by omega, by go_num, HB5⟩
            case measure => simp [intOf]; omega
          · have HB5 := hid (HB2.out.trans (HB4.out.mono (by have := HB2.out.size; simp at this; omega)))
            go_wp2
            go_roundw
            case rel => exact ⟨k + 1, by omega, by go_num, HB5⟩
            case measure => simp [intOf]; omega
    · go_wp2
      go_loopw [9] (fun i wr => ∃ l : Nat, l ≤ n2 ∧ i = .int .i64 l ∧ Hid (Below (w.heap.size + 2) ((w.alloc (.cells #[.slice TA n ca, .slice TC n2 cc] 49)).alloc (.cells #[.slice TB n cb, .slice TD n2 cd] 49)) wr)) (fun i _ => n2 - (intOf i).toNat)
      case atStart => exact ⟨0, by omega, rfl, HB⟩
      case round =>
        clear r0 r1 r2 r3 l0 l1 hbel HBel
        obtain ⟨l, hl, rfl, HB4⟩ := hrel
        obtain ⟨b0, b1, bsz, hbel⟩ := two_blocks19 HB4.out
        have r0 := coh b0 (o := 0) rfl
        have r1 := coh b0 (o := 1) rfl
        have r2 := coh b1 (o := 0) rfl
        have r3 := coh b1 (o := 1) rfl
        have l0 : w.heap.size < wr.heap.size := by omega
        have l1 : w.heap.size + 1 < wr.heap.size := by omega
        clear b0 b1 bsz
        by_cases hln : l < n2
        · have hl2 : l < r.conds.length := by rw [HN2.out]; exact hln
          obtain ⟨b2, o2, rfl, hc⟩ := H3.out (by omega)
          obtain ⟨b3, o3, rfl, hc'⟩ := H4.out (by omega)
          obtain ⟨c0, c1, c2, c3, c4⟩ := hc l hl2
          obtain ⟨e0, e1, e2, e3, e4⟩ := hc' l hl2
          obtain ⟨t, et⟩ : ∃ t, r.conds[l] = t := ⟨_, rfl⟩
          rw [et] at c0 c1 c2 c3 c4 e0 e1 e2 e3 e4
          obtain ⟨v, op, ⟨ck, cn, cs⟩⟩ := t
          simp only at c0 c1 c2 c3 c4 e0 e1 e2 e3 e4
          obtain ⟨Z, hZ⟩ : ∃ Y : ByteArray, (⟨v.toArray⟩ : ByteArray) = Y := ⟨_, rfl⟩
          rw [hZ] at c0 e0
          replace c0 := cell_keep hbel c0
          replace c1 := cell_keep hbel c1
          replace c2 := cell_keep hbel c2
          replace c3 := cell_keep hbel c3
          replace c4 := cell_keep hbel c4
          replace e0 := cell_keep hbel e0
          replace e1 := cell_keep hbel e1
          replace e2 := cell_keep hbel e2
          replace e3 := cell_keep hbel e3
          replace e4 := cell_keep hbel e4
          have EQ := eq_cnd Z op ck cn cs Z op ck cn cs (x := true) (by simp [veq])
          have GV := guardCnd
          clear hc hc' hZ et
          go_wp2
          go_quiet (fail)
          have HB5 := hid (below_drewN HB4.out nq)
          go_wp2
          go_roundw
          case rel => exact ⟨l + 1, by omega, by go_num, HB5⟩
          case measure => simp [intOf]; omega
        · have hb := hbel
          go_wp2
          go_ret
          exact ⟨rfl, hb⟩
end Go.Proofs.YtgeapgbebbapmaaDoor
