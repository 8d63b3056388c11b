/-
  PARTS of a claim, merged by segs.py: Sk1, Sk2, TokW, Ps1, Ps2, Rt2.
-/
import Derived.Test.YtjhnopnppimnhaaGreatDoorZ14
import Derived.Test.YtjhnopnppimnhaaGreatDoorZ15
import Derived.Test.YtjhnopnppimnhaaGreatDoorZ16
import Derived.Test.YtjhnopnppimnhaaGreatDoorZ02
import Derived.Test.YtjhnopnppimnhaaGreatDoorZ10
import Derived.Test.YtjhnopnppimnhaaGreatDoorZ07
import Derived.Test.YtjhnopnppimnhaaGreatDoorZ05
import Derived.Test.YtjhnopnppimnhaaGreatDoorProg
import Derived.Test.YtjhnopnppimnhaaGreatDoorZ13
import Derived.Test.YtjhnopnppimnhaaGreatDoorZ03
import Derived.Deep.DeepCutAuto
namespace Go.Proofs.YtjhnopnppimnhaaGreatDoor

/-! ### Sk1 -/
section
open Go.RowKit

theorem ix_cut (c : UInt8) : ∀ l : Str, (Lib.indexByte l c = -1 ∧ cutL c l = (l, [], false)) ∨ ∃ k : Nat, Lib.indexByte l c = (k : Int) ∧ k < l.length ∧ cutL c l = (l.take k, l.drop (k + 1), true)
  | [] => .inl ⟨rfl, rfl⟩
  | x :: l => by
    by_cases h : x = c
    · right
      refine ⟨0, ?_, by simp, ?_⟩
      · unfold Lib.indexByte; simp [h]
      · unfold cutL; rw [if_pos h]; rfl
    · have h1 : (x == c) = false := by simpa using h
      unfold Lib.indexByte cutL
      rw [h1, if_neg (by decide), if_neg h]
      rcases ix_cut c l with ⟨e1, e2⟩ | ⟨k, e1, e2, e3⟩
      · left; rw [e1, e2]; exact ⟨rfl, rfl⟩
      · right
        have hne : (Lib.indexByte l c == -1) = false := by rw [beq_eq_false_iff_ne, e1]; omega
        rw [hne, if_neg (by decide), e1, e3]
        exact ⟨k + 1, by omega, by simp only [List.length_cons]; omega, rfl⟩
theorem arr_b (s : ByteArray) : (⟨s.data.toList.toArray⟩ : ByteArray) = s := ByteArray.ext (by simp)
theorem take_b (s : ByteArray) (k : Nat) : (⟨(s.data.toList.take k).toArray⟩ : ByteArray) = s.extract 0 k := by
  apply ByteArray.ext
  apply Array.toList_inj.1
  simp [ByteArray.data_extract, Array.toList_extract, List.extract]
theorem drop_b (s : ByteArray) (k : Nat) : (⟨(s.data.toList.drop k).toArray⟩ : ByteArray) = s.extract k s.size := by
  apply ByteArray.ext
  apply Array.toList_inj.1
  simp [ByteArray.data_extract, Array.toList_extract, List.extract]
  exact (List.take_of_length_le (by simp)).symm
theorem len_b (s : ByteArray) : s.data.toList.length = s.size := by simp

theorem ixs_sp (s : ByteArray) (w : World) {y : Int} (hy : Lib.indexByte s.data.toList 32 = y) :
    Calls Tryz.prog 54 #[.string s, .int .u8 32] w fun e w' => e = .returned (.int .i64 y) ∧ w = w' := by
  refine (Tryz.stringslite_IndexByte s 32 w).mono fun e w' ⟨h, h'⟩ => ⟨?_, h'.symm⟩
  rw [h, ← hy]; rfl
set_option maxRecDepth 100000 in
set_option maxHeartbeats 1000000 in
theorem idx_sp (s : ByteArray) (w : World) {y : Int} (hy : Lib.indexByte s.data.toList 32 = y) :
    Calls Tryz.prog 41 #[.string s, .string ⟨#[32]⟩] w fun e w' => e = .returned (.int .i64 y) ∧ w = w' := by
  have H1 := fun W => hid (ixs_sp s W hy)
  have tl : s.toList = s.data.toList := Lib.toList_data _
  cases hb : (([32] : List UInt8) == s.toList) with
  | true =>
    have e0 : s.data.toList = [32] := by rw [← tl]; exact (beq_iff_eq.1 hb).symm
    have hy0 : y = 0 := by rw [← hy, e0]; decide
    subst hy0
    clear hy H1 tl e0
    go_enter Tryz.func41, Tryz.ntmps41
    go_wp2
    go_ret
    exact ⟨rfl, rfl⟩
  | false =>
    clear hy tl
    go_enter Tryz.func41, Tryz.ntmps41
    go_wp2_with fail
    refine (H1 _).out.mono ?_
    rintro e w1 ⟨rfl, rfl⟩
    clear H1
    go_wp2
    go_ret
    exact ⟨rfl, rfl⟩
set_option maxRecDepth 100000 in
set_option maxHeartbeats 1000000 in
theorem scut_sp (s : ByteArray) (w : World) (hs : s.size ≤ 100000) {a r : Str} {m : Bool} (h : cutL 32 s.data.toList = (a, r, m)) :
    Calls Tryz.prog 28 #[.string s, .string ⟨#[32]⟩] w fun e w' => e = .returned (.tuple #[.string ⟨a.toArray⟩, .string ⟨r.toArray⟩, .bool m]) ∧ Below w.heap.size w w' := by
  rcases ix_cut 32 s.data.toList with ⟨e1, e2⟩ | ⟨k, e1, e2, e3⟩
  · rw [e2] at h
    injection h with h1 h2
    injection h2 with h2 h3
    subst h1 h2 h3
    have H1 := fun W => hid (idx_sp s W e1)
    clear e1 e2
    go_enter Tryz.func28, Tryz.ntmps28
    go_wp2_with fail
    refine (H1 _).out.mono ?_
    rintro e w1 ⟨rfl, rfl⟩
    clear H1
    go_wp2
    go_ret3
    exact ⟨by rw [arr_b]; rfl, Below.refl _ _⟩
  · rw [e3] at h
    injection h with h1 h2
    injection h2 with h2 h3
    subst h1 h2 h3
    have H1 := fun W => hid (idx_sp s W e1)
    rw [len_b] at e2
    have E1 := hid (take_b s k)
    have E2 := hid (drop_b s (k + 1))
    have b1 : (k : Int) + 1 ≤ s.size := by omega
    have b2 : (k : Int) ≤ s.size := by omega
    have b3 : ((k : Int) + 1).toNat = k + 1 := by omega
    clear e1 e3
    go_enter Tryz.func28, Tryz.ntmps28
    go_wp2_with fail
    refine (H1 _).out.mono ?_
    rintro e w1 ⟨rfl, rfl⟩
    clear H1
    go_wp2_with fail
    go_quiet (fail)
    go_wp2
    go_ret3
    exact ⟨by rw [E1.out, E2.out]; rfl, below_drewN (Below.refl _ _) _⟩
set_option maxRecDepth 100000 in
set_option maxHeartbeats 1000000 in
theorem cut_sp (s : ByteArray) (w : World) (hs : s.size ≤ 100000) {a r : Str} {m : Bool} (h : cutL 32 s.data.toList = (a, r, m)) :
    Calls Tryz.prog 17 #[.string s, .string ⟨#[32]⟩] w fun e w' => e = .returned (.tuple #[.string ⟨a.toArray⟩, .string ⟨r.toArray⟩, .bool m]) ∧ Below w.heap.size w w' := by
  have H1 := fun W => hid (scut_sp s W hs h)
  clear h
  go_enter Tryz.func17, Tryz.ntmps17
  go_wp2_with fail
  refine (H1 _).out.mono ?_
  rintro e w1 ⟨rfl, b1⟩
  clear H1
  go_wp2
  go_ret3
  exact ⟨rfl, b1⟩

theorem ixs_lf (s : ByteArray) (w : World) {y : Int} (hy : Lib.indexByte s.data.toList 10 = y) :
    Calls Tryz.prog 54 #[.string s, .int .u8 10] w fun e w' => e = .returned (.int .i64 y) ∧ w = w' := by
  refine (Tryz.stringslite_IndexByte s 10 w).mono fun e w' ⟨h, h'⟩ => ⟨?_, h'.symm⟩
  rw [h, ← hy]; rfl
set_option maxRecDepth 100000 in
set_option maxHeartbeats 1000000 in
theorem idx_lf (s : ByteArray) (w : World) {y : Int} (hy : Lib.indexByte s.data.toList 10 = y) :
    Calls Tryz.prog 41 #[.string s, .string ⟨#[10]⟩] w fun e w' => e = .returned (.int .i64 y) ∧ w = w' := by
  have H1 := fun W => hid (ixs_lf s W hy)
  have tl : s.toList = s.data.toList := Lib.toList_data _
  cases hb : (([10] : List UInt8) == s.toList) with
  | true =>
    have e0 : s.data.toList = [10] := by rw [← tl]; exact (beq_iff_eq.1 hb).symm
    have hy0 : y = 0 := by rw [← hy, e0]; decide
    subst hy0
    clear hy H1 tl e0
    go_enter Tryz.func41, Tryz.ntmps41
    go_wp2
    go_ret
    exact ⟨rfl, rfl⟩
  | false =>
    clear hy tl
    go_enter Tryz.func41, Tryz.ntmps41
    go_wp2_with fail
    refine (H1 _).out.mono ?_
    rintro e w1 ⟨rfl, rfl⟩
    clear H1
    go_wp2
    go_ret
    exact ⟨rfl, rfl⟩
set_option maxRecDepth 100000 in
set_option maxHeartbeats 1000000 in
theorem scut_lf (s : ByteArray) (w : World) (hs : s.size ≤ 100000) {a r : Str} {m : Bool} (h : cutL 10 s.data.toList = (a, r, m)) :
    Calls Tryz.prog 28 #[.string s, .string ⟨#[10]⟩] w fun e w' => e = .returned (.tuple #[.string ⟨a.toArray⟩, .string ⟨r.toArray⟩, .bool m]) ∧ Below w.heap.size w w' := by
  rcases ix_cut 10 s.data.toList with ⟨e1, e2⟩ | ⟨k, e1, e2, e3⟩
  · rw [e2] at h
    injection h with h1 h2
    injection h2 with h2 h3
    subst h1 h2 h3
    have H1 := fun W => hid (idx_lf s W e1)
    clear e1 e2
    go_enter Tryz.func28, Tryz.ntmps28
    go_wp2_with fail
    refine (H1 _).out.mono ?_
    rintro e w1 ⟨rfl, rfl⟩
    clear H1
    go_wp2
    go_ret3
    exact ⟨by rw [arr_b]; rfl, Below.refl _ _⟩
  · rw [e3] at h
    injection h with h1 h2
    injection h2 with h2 h3
    subst h1 h2 h3
    have H1 := fun W => hid (idx_lf s W e1)
    rw [len_b] at e2
    have E1 := hid (take_b s k)
    have E2 := hid (drop_b s (k + 1))
    have b1 : (k : Int) + 1 ≤ s.size := by omega
    have b2 : (k : Int) ≤ s.size := by omega
    have b3 : ((k : Int) + 1).toNat = k + 1 := by omega
    clear e1 e3
    go_enter Tryz.func28, Tryz.ntmps28
    go_wp2_with fail
    refine (H1 _).out.mono ?_
    rintro e w1 ⟨rfl, rfl⟩
    clear H1
    go_wp2_with fail
    go_quiet (fail)
    go_wp2
    go_ret3
    exact ⟨by rw [E1.out, E2.out]; rfl, below_drewN (Below.refl _ _) _⟩
set_option maxRecDepth 100000 in
set_option maxHeartbeats 1000000 in
theorem cut_lf (s : ByteArray) (w : World) (hs : s.size ≤ 100000) {a r : Str} {m : Bool} (h : cutL 10 s.data.toList = (a, r, m)) :
    Calls Tryz.prog 17 #[.string s, .string ⟨#[10]⟩] w fun e w' => e = .returned (.tuple #[.string ⟨a.toArray⟩, .string ⟨r.toArray⟩, .bool m]) ∧ Below w.heap.size w w' := by
  have H1 := fun W => hid (scut_lf s W hs h)
  clear h
  go_enter Tryz.func17, Tryz.ntmps17
  go_wp2_with fail
  refine (H1 _).out.mono ?_
  rintro e w1 ⟨rfl, b1⟩
  clear H1
  go_wp2
  go_ret3
  exact ⟨rfl, b1⟩

set_option maxRecDepth 100000 in
set_option maxHeartbeats 1000000 in
theorem scr_printable (s : ByteArray) (w : World) (hs : s.size ≤ 100000) {x : Bool} (hx : s.data.toList.all prnB = x) :
    Calls Tryz.prog 18 #[.string s] w fun e w' => e = .returned (.bool x) ∧ w = w' := by
  have hls := hid (len_b s)
  have HX : Hid ((s.data.toList.drop 0).all prnB = x) := hid hx
  clear hx
  go_enter Tryz.func18, Tryz.ntmps18
  go_wp2
  go_loop [6] (fun i => ∃ k : Nat, k ≤ s.size ∧ i = .int .i64 k ∧ Hid ((s.data.toList.drop k).all prnB = x)) (fun i => s.size - (intOf i).toNat)
  case atStart => exact ⟨0, by omega, rfl, HX⟩
  case round =>
    obtain ⟨k, hk, rfl, HK⟩ := hrel
    clear HX
    by_cases hlt : k < s.size
    · have hl : k < s.data.toList.length := by rw [hls.out]; exact hlt
      have hd := List.drop_eq_getElem_cons hl
      have hg : s.data.toList[k]'hl = s[k]'hlt := rfl
      rw [hg] at hd
      by_cases h1 : (s[k]'hlt).toNat < 32
      · have hx : x = false := by
          rw [← HK.out, hd, List.all_cons]
          have : prnB (s[k]'hlt) = false := by unfold prnB; simp; omega
          rw [this]; rfl
        subst hx
        have i1 : ((s[k]'hlt).toNat : Int) < 32 := by omega
        clear HK hd hg hl
        go_wp2
        go_ret
        exact ⟨rfl, rfl⟩
      · by_cases h2 : 126 < (s[k]'hlt).toNat
        · have hx : x = false := by
            rw [← HK.out, hd, List.all_cons]
            have : prnB (s[k]'hlt) = false := by unfold prnB; simp; omega
            rw [this]; rfl
          subst hx
          have i1 : ¬ ((s[k]'hlt).toNat : Int) < 32 := by omega
          have i2 : (126 : Int) < (s[k]'hlt).toNat := by omega
          clear HK hd hg hl
          go_wp2
          go_ret
          exact ⟨rfl, rfl⟩
        · have HK2 : Hid ((s.data.toList.drop (k + 1)).all prnB = x) := hid (by
            rw [← HK.out, hd, List.all_cons]
            have : prnB (s[k]'hlt) = true := by unfold prnB; simp; omega
            rw [this]; rfl)
          have i1 : ¬ ((s[k]'hlt).toNat : Int) < 32 := by omega
          have i2 : ¬ (126 : Int) < (s[k]'hlt).toNat := by omega
          clear HK hd hg hl
          go_wp2
          go_round
          case rel => exact ⟨k + 1, by omega, by go_num, HK2⟩
          case measure => simp [intOf]; omega
    · have hx : x = true := by
        rw [← HK.out, List.drop_eq_nil_of_le (by rw [hls.out]; omega)]; rfl
      subst hx
      clear HK
      go_wp2
      go_ret
      exact ⟨rfl, rfl⟩
end

/-! ### Sk2 -/
section
open Go.RowKit

theorem lt_of_block' {w : World} {g : Nat} {o : Obj} (h : w.heap[g]? = some o) : g < w.heap.size := (Array.getElem?_eq_some_iff.1 h).1
def namB : List ByteArray := [⟨#[115, 99, 104, 101, 109, 97]⟩, ⟨#[105, 110, 115, 101, 114, 116]⟩, ⟨#[100, 101, 108, 101, 116, 101]⟩, ⟨#[99, 111, 109, 109, 105, 116]⟩, ⟨#[108, 111, 103]⟩, ⟨#[99, 104, 101, 99, 107, 112, 111, 105, 110, 116]⟩, ⟨#[99, 114, 97, 115, 104]⟩, ⟨#[114, 101, 99, 111, 118, 101, 114]⟩, ⟨#[111, 112, 101, 110]⟩, ⟨#[102, 101, 116, 99, 104]⟩, ⟨#[115, 101, 101, 107]⟩, ⟨#[102, 105, 110, 100]⟩, ⟨#[99, 108, 111, 115, 101]⟩, ⟨#[99, 111, 117, 110, 116]⟩, ⟨#[113, 117, 97, 110, 116, 105, 108, 101]⟩, ⟨#[115, 97, 109, 112, 108, 101]⟩, ⟨#[100, 105, 102, 102]⟩, ⟨#[101, 120, 112, 108, 97, 105, 110]⟩, ⟨#[119, 104, 121]⟩, ⟨#[97, 117, 100, 105, 116]⟩]
theorem namB_len : namB.length = 20 := rfl
theorem nam_lists : namB.map (fun b => b.data.toList) = nam6 := rfl
/-- The table of the operations' names. -/
def NamAt (w : World) : Prop := ∃ (cs : Array Value) (t : TypeId) (fr : Nat × Nat), w.heap[0]? = some (.cells cs t fr) ∧ cs.size = 20 ∧ ∀ j (h : j < 20), cs[j]? = some (.string (namB[j]'h))
theorem NamAt.below {w w' : World} (h : NamAt w) (hb : Below w.heap.size w w') : NamAt w' :=
  let ⟨cs, t, fr, h1, h2, h3⟩ := h; ⟨cs, t, fr, (hb.block _ (lt_of_block' h1)).trans h1, h2, h3⟩
theorem NamAt.cell {w : World} (h : NamAt w) (j : Nat) (hj : j < 20) : w.cell? ⟨0, j, none⟩ = some (.string (namB[j]'hj)) := by
  obtain ⟨cs, t, fr, h1, h2, h3⟩ := h
  rw [cell_of_row _ _ j cs t fr h1]; exact h3 j hj
/-- What chapter 60 asks of the world. -/
structure EnvS (w : World) : Prop where
  env : EnvL w
  nam : NamAt w
theorem EnvS.below {w w' : World} (h : EnvS w) (hb : Below w.heap.size w w') : EnvS w' := ⟨h.env.below hb, h.nam.below hb⟩

theorem nam_ix {cs : Array Value} (hc : ∀ j (h : j < 20), cs[j]? = some (.string (namB[j]'h))) (k : Nat) (hk : k < 20) (w : World) : (Instr.index 62 (.agg cs) (.int .i64 k)).run Tryz.prog w = .ok (.string (namB[k]'hk)) w := by
  simp [Instr.index, run_underlying Tryz.underlying62, asIntOf, part, go_sem, Tryz.isAgg9, Tryz.sizeOf9, hc k hk, hk]
theorem nam_get {k : Nat} (h : k < 20) (h' : k < nam6.length) : nam6[k]'h' = (namB[k]'h).data.toList := by
  have : ∀ k : Fin 20, nam6[k.val]'(k.isLt) = (namB[k.val]'(k.isLt)).data.toList := by decide
  exact this ⟨k, h⟩
theorem op_found {l : Str} {k : Nat} (hk : k < 20) (hn : ∀ j (h : j < k), l ≠ (namB[j]'(by rw [namB_len]; omega)).data.toList) (hy : l = (namB[k]'hk).data.toList) : opOf l = k := by
  unfold opOf
  have hkl : k < nam6.length := hk
  rw [List.findIdx_eq hkl]
  refine ⟨by rw [nam_get hk hkl, hy]; simp, fun j hj => ?_⟩
  have := hn j hj
  rw [nam_get (by omega)]
  simp only [beq_eq_false_iff_ne]
  exact fun e => this e.symm
theorem op_none {l : Str} (hn : ∀ j (h : j < 20), l ≠ (namB[j]'h).data.toList) : ¬ opOf l < 20 := by
  intro h
  have h2 : List.findIdx (· == l) nam6 < nam6.length := h
  have h3 : (nam6[opOf l]'h2 == l) = true := List.findIdx_getElem (w := h2)
  have h4 := nam_get h h2
  exact hn _ h ((beq_iff_eq.1 h3).symm.trans h4)

set_option maxRecDepth 100000 in
set_option maxHeartbeats 2000000 in
theorem scr_number (s : ByteArray) (w : World) (hE : NamAt w) {x : Int} (hx : (if opOf s.data.toList < 20 then (opOf s.data.toList : Int) else -1) = x) :
    Calls Tryz.prog 29 #[.string s] w fun e w' => e = .returned (.int .i64 x) ∧ w = w' := by
  have HX := hid hx
  have tl : ∀ B : ByteArray, B.toList = B.data.toList := fun B => Lib.toList_data _
  obtain ⟨cs, ty, fr, hblk, hsz, hc⟩ := hE
  have HI := hid (nam_ix hc)
  have hinf : (Tryz.prog.info? 62).map (·.size) = some cs.size := by rw [hsz]; kernel_rfl
  have HL := hid (And.intro hblk hinf)
  clear hc hsz hblk hinf hx
  go_enter Tryz.func29, Tryz.ntmps29
  go_wp2_with (refine wpList_load_row rfl _ _ rfl _ rfl _ _ _ _ HL.out.1 Tryz.underlying62 rfl HL.out.2 ?_)
  clear HL
  go_loop [6] (fun i => ∃ k : Nat, k ≤ 20 ∧ i = .int .i64 k ∧ Hid (∀ j (_ : j < k) (h : j < 20), s.data.toList ≠ (namB[j]'h).data.toList)) (fun i => 20 - (intOf i).toNat)
  case atStart => exact ⟨0, by omega, rfl, hid (fun j hj => by omega)⟩
  case round =>
    obtain ⟨k, hk, rfl, HN⟩ := hrel
    by_cases hk12 : k < 20
    · have hix := HI.out k hk12
      obtain ⟨B, hB⟩ : ∃ B, namB[k]'hk12 = B := ⟨_, rfl⟩
      rw [hB] at hix
      have HB := hid hB
      clear hB
      cases hb : (s.data == B.data) with
      | true =>
        have hb2 : (s.toList == B.toList) = true := by rw [tl, tl, beq_iff_eq.1 hb]; simp
        have hxx : x = k := by
          have e1 : s.data.toList = B.data.toList := by rw [beq_iff_eq.1 hb]
          have := op_found hk12 (fun j hj => HN.out j hj (by omega)) (by rw [HB.out]; exact e1)
          rw [← HX.out, this, if_pos hk12]
        subst hxx
        clear HN HX HB tl
        go_wp2
        go_ret
        exact ⟨rfl, rfl⟩
      | false =>
        have hb2 : (s.toList == B.toList) = false := by
          rw [tl, tl, beq_eq_false_iff_ne]
          intro e1
          rw [Array.toList_inj.1 e1] at hb
          simp at hb
        have HN2 : Hid (∀ j (_ : j < k + 1) (h : j < 20), s.data.toList ≠ (namB[j]'h).data.toList) := hid (fun j hj h => by
          by_cases e : j = k
          · subst e
            intro e1
            rw [HB.out] at e1
            rw [Array.toList_inj.1 e1] at hb
            simp at hb
          · exact HN.out j (by omega) h)
        clear HN HB tl
        go_wp2
        go_round
        case rel => exact ⟨k + 1, by omega, by go_num, HN2⟩
        case measure => simp [intOf]; omega
    · have hxx : x = -1 := by
        rw [← HX.out, if_neg (op_none fun j hj => HN.out j (by omega) hj)]
      subst hxx
      clear HN HX tl
      go_wp2
      go_ret
      exact ⟨rfl, rfl⟩
/-- The name of an operation. -/
def opName (op : Int) : ByteArray := if 0 ≤ op ∧ op < 20 then namB.getD op.toNat ⟨#[]⟩ else ⟨#[]⟩
set_option maxRecDepth 100000 in
set_option maxHeartbeats 1000000 in
theorem scr_name (op : Int) (w : World) (hE : NamAt w) (hi : I64 op) {x : ByteArray} (hx : opName op = x) :
    Calls Tryz.prog 12 #[.int .i64 op] w fun e w' => e = .returned (.string x) ∧ w = w' := by
  unfold opName at hx
  by_cases h0 : op < 0
  · rw [if_neg (by omega)] at hx
    subst hx
    clear hE
    go_enter Tryz.func12, Tryz.ntmps12
    go_wp2
    go_ret
    exact ⟨rfl, rfl⟩
  · by_cases h1 : 20 ≤ op
    · rw [if_neg (by omega)] at hx
      subst hx
      clear hE
      go_enter Tryz.func12, Tryz.ntmps12
      go_wp2
      go_ret
      exact ⟨rfl, rfl⟩
    · obtain ⟨k, rfl⟩ : ∃ k : Nat, op = k := ⟨op.toNat, by omega⟩
      have hk : k < 20 := by omega
      have hc := hE.cell k hk
      have e : x = namB[k]'hk := by
        rw [← hx, if_pos (by omega), Int.toNat_natCast, List.getD_eq_getElem?_getD, List.getElem?_eq_getElem hk]; rfl
      rw [← e] at hc
      clear hE hx e h0 h1
      go_enter Tryz.func12, Tryz.ntmps12
      go_wp2
      go_ret
      exact ⟨rfl, rfl⟩

/-- A decimal integer without leading zeros. -/
def decB (l : Str) : Bool := decide (¬ (magL l = [] ∨ ((magL l).getD 0 0 = 48 ∧ (1 < (magL l).length ∨ negL l = true)))) && digs (magL l)
theorem dec_no {l : Str} (h : decB l = false) : pInt l = (V0, 15) := by
  unfold pInt
  split
  · rfl
  · rename_i h1
    unfold decB at h
    rw [decide_eq_true h1, Bool.true_and] at h
    rw [if_pos h]
theorem dec_mid {l : Str} (h : ¬ (magL l = [] ∨ ((magL l).getD 0 0 = 48 ∧ (1 < (magL l).length ∨ negL l = true)))) : decB l = digs (magL l) := by
  unfold decB; rw [decide_eq_true h, Bool.true_and]
theorem dec_out {l : Str} (h : magL l = [] ∨ ((magL l).getD 0 0 = 48 ∧ (1 < (magL l).length ∨ negL l = true))) : decB l = false := by
  unfold decB; rw [decide_eq_false (not_not_intro h), Bool.false_and]
theorem dec_yes {l : Str} (h : decB l = true) : magL l ≠ [] ∧ digs (magL l) = true ∧ pInt l = if topL l < numVal (magL l) then (V0, 3) else (intV1 (if negL l = true then - (numVal (magL l) : Int) else numVal (magL l)), 0) := by
  unfold decB at h
  rw [Bool.and_eq_true] at h
  have h1 := of_decide_eq_true h.1
  refine ⟨fun e => h1 (.inl e), h.2, ?_⟩
  unfold pInt
  rw [if_neg h1, if_neg (by rw [h.2]; decide)]

set_option maxRecDepth 100000 in
set_option maxHeartbeats 1000000 in
theorem scr_decimal (s : ByteArray) (w : World) (hs : s.size ≤ 100000) {x : Bool} (hx : decB s.data.toList = x) :
    Calls Tryz.prog 59 #[.string s] w fun e w' => e = .returned (.bool x) ∧ w = w' := by
  obtain ⟨D, hD⟩ : ∃ D : ByteArray, D = ⟨(Lib.trimPrefix s.data.toList [45]).toArray⟩ := ⟨_, rfl⟩
  have HT : ∀ W, Hid (Calls Tryz.prog 76 #[.string s, .string ⟨#[45]⟩] W fun e w' => e = .returned (.string D) ∧ w' = W) := fun W => hid (by rw [hD]; exact Tryz.strings_TrimPrefix s ⟨#[45]⟩ W)
  have hDl : D.data.toList = magL s.data.toList := by rw [hD, ← trim_mag]
  have hsd : D.size ≤ s.size := by
    have h1 : D.data.toList.length = D.size := by simp
    have h2 : s.data.toList.length = s.size := by simp
    have h3 : (magL s.data.toList).length ≤ s.data.toList.length := by unfold magL; split <;> simp
    rw [← hDl] at h3; omega
  have tl : ∀ B : ByteArray, B.toList = B.data.toList := fun B => Lib.toList_data _
  clear hD
  by_cases hn : magL s.data.toList = []
  · have hx2 : x = false := by rw [← hx]; exact dec_out (.inl hn)
    subst hx2
    have eD : D.toList.isEmpty = true := by rw [tl, hDl, hn]; rfl
    clear hDl hn tl hx
    go_enter Tryz.func59, Tryz.ntmps59
    go_wp2_with fail
    refine (HT _).out.mono ?_
    rintro e w1 ⟨rfl, rfl⟩
    clear HT
    go_wp2
    go_ret
    exact ⟨rfl, rfl⟩
  · have eD : D.toList.isEmpty = false := by rw [tl, hDl]; simpa using hn
    have hpos : 0 < D.size := by
      have h1 : D.data.toList.length = D.size := by simp
      have := List.length_pos_iff.2 hn
      rw [← hDl] at this; omega
    have hg0 : (magL s.data.toList).getD 0 0 = D[0] := by rw [← hDl]; exact getD_of hpos
    by_cases hA : D[0].toNat = 48 ∧ s.toList ≠ [48]
    · have e48 : (magL s.data.toList).getD 0 0 = 48 := by rw [hg0]; exact UInt8.toNat.inj hA.1
      have hx2 : x = false := by
        rw [← hx]; exact dec_out (.inr ⟨e48, (zero_iff e48 hn).2 (by rw [← tl]; exact hA.2)⟩)
      subst hx2
      have eS : (s.toList == [48]) = false := by simpa using hA.2
      have e0 := hA.1
      clear hDl hn tl hA hg0 e48 hx
      go_enter Tryz.func59, Tryz.ntmps59
      go_wp2_with fail
      refine (HT _).out.mono ?_
      rintro e w1 ⟨rfl, rfl⟩
      clear HT
      go_wp2
      go_ret
      exact ⟨rfl, rfl⟩
    · have HX : Hid (digs (D.data.toList.drop 0) = x) := hid (by
        rw [← hx, hDl, dec_mid (fun h => h.elim hn fun ⟨h1, h2⟩ => hA ⟨by rw [← hg0, h1]; rfl, by rw [tl]; exact (zero_iff h1 hn).1 h2⟩)]; rfl)
      have hcase : (D[0].toNat = 48 ∧ (s.toList == [48]) = true) ∨ ((D[0].toNat : Int) == 48) = false := by
        by_cases h : D[0].toNat = 48
        · by_cases h' : s.toList = [48]
          · exact .inl ⟨h, by rw [h']; rfl⟩
          · exact absurd ⟨h, h'⟩ hA
        · right; simp; omega
      clear hx hA hn hg0 tl hDl
      rcases hcase with ⟨e0, eS⟩ | e0
      all_goals
        go_enter Tryz.func59, Tryz.ntmps59
        go_wp2_with fail
        refine (HT _).out.mono ?_
        rintro e w1 ⟨rfl, rfl⟩
        clear HT
        go_wp2
        go_loop [20] (fun i => ∃ (k : Nat), k ≤ D.size ∧ i = .int .i64 k ∧ Hid (digs (D.data.toList.drop k) = x)) (fun i => D.size - (intOf i).toNat)
        case atStart => exact ⟨0, by omega, rfl, HX⟩
        case round =>
          obtain ⟨k, hk, rfl, HK⟩ := hrel
          clear HX
          by_cases hlt : k < D.size
          · have hlt' : k < D.data.toList.length := by simpa using hlt
            by_cases hdg : isDig D[k]
            · rw [digs_step hlt' hdg] at HK
              unfold isDig at hdg
              obtain ⟨g1, g2⟩ := hdg
              go_wp2
              go_round
              case rel => exact ⟨k + 1, by omega, by go_num, HK⟩
              case measure => simp [intOf]; omega
            · rw [digs_stop hlt' hdg] at HK
              obtain rfl := HK.out
              unfold isDig at hdg
              have hq : D[k].toNat < 48 ∨ 57 < D[k].toNat := by omega
              clear HK hdg
              rcases hq with hq | hq
              all_goals
                go_wp2
                go_ret
                exact ⟨rfl, rfl⟩
          · have e : D.data.toList.drop k = [] := List.drop_eq_nil_of_le (by simp; omega)
            rw [e] at HK
            have hxx : x = true := by rw [← HK.out]; rfl
            subst hxx
            clear HK
            go_wp2
            go_ret
            exact ⟨rfl, rfl⟩
end

/-! ### TokW -/
section
open Go.RowKit

/-- The cells of tokens. -/
def flatT (l : List Tok) : List Value := l.flatMap fun t => [.int .i64 t.k, .string ⟨t.t.toArray⟩, .int .i64 t.v.k, .int .i64 t.v.n, .string t.v.s, .int .i64 t.a]
theorem flatT_length : ∀ l : List Tok, (flatT l).length = l.length * 6
  | [] => rfl
  | t :: l => by
    have := flatT_length l
    simp only [flatT, List.flatMap_cons, List.length_append, List.length_cons] at *
    simp only [List.length_nil]; omega
theorem flatT_append (a b : List Tok) : flatT (a ++ b) = flatT a ++ flatT b := by simp [flatT]
theorem flatT_get : ∀ (l : List Tok) (i : Nat) (h : i < l.length), (flatT l)[i * 6]? = some (.int .i64 l[i].k) ∧ (flatT l)[i * 6 + 1]? = some (.string ⟨l[i].t.toArray⟩) ∧ (flatT l)[i * 6 + 2]? = some (.int .i64 l[i].v.k) ∧ (flatT l)[i * 6 + 3]? = some (.int .i64 l[i].v.n) ∧ (flatT l)[i * 6 + 4]? = some (.string l[i].v.s) ∧ (flatT l)[i * 6 + 5]? = some (.int .i64 l[i].a)
  | t :: l, 0, _ => ⟨rfl, rfl, rfl, rfl, rfl, rfl⟩
  | t :: l, i + 1, h => by
    have := flatT_get l i (by simpa using h)
    have e : (i + 1) * 6 = i * 6 + 6 := by omega
    simpa [flatT, e, Nat.add_assoc] using this

/-- A slice of tokens. -/
def TokAt (w : World) (A : Option Addr) (l : List Tok) : Prop :=
  0 < l.length → ∃ b o, A = some ⟨b, o, none⟩ ∧ ∀ i (h : i < l.length),
    w.cell? ⟨b, o + i * 6, none⟩ = some (.int .i64 l[i].k) ∧ w.cell? ⟨b, o + i * 6 + 1, none⟩ = some (.string ⟨l[i].t.toArray⟩) ∧ w.cell? ⟨b, o + i * 6 + 2, none⟩ = some (.int .i64 l[i].v.k) ∧ w.cell? ⟨b, o + i * 6 + 3, none⟩ = some (.int .i64 l[i].v.n) ∧ w.cell? ⟨b, o + i * 6 + 4, none⟩ = some (.string l[i].v.s) ∧ w.cell? ⟨b, o + i * 6 + 5, none⟩ = some (.int .i64 l[i].a)
theorem TokAt.below {w w' : World} {A : Option Addr} {l : List Tok} (h : TokAt w A l) (hb : Below w.heap.size w w') : TokAt w' A l := fun hp => by
  obtain ⟨b, o, e, hc⟩ := h hp
  refine ⟨b, o, e, fun i hi => ?_⟩
  obtain ⟨h0, h1, h2, h3, h4, h5⟩ := hc i hi
  exact ⟨cell_keep hb h0, cell_keep hb h1, cell_keep hb h2, cell_keep hb h3, cell_keep hb h4, cell_keep hb h5⟩
theorem own_toks {w : World} {B : Nat} {e : TypeId} {v : Value} {l : List Tok} (h : w.ownsRow B e 6 v l.length (flatT l)) : ∃ A c, v = .slice A l.length c ∧ TokAt w A l ∧ l.length ≤ c := by
  rcases h.2 with ⟨rfl, h0⟩ | ⟨g, cap, cur, rfl, hB, hh, hn, hm, hcs, ht⟩
  · exact ⟨none, 0, by rw [h0], fun hp => by omega, by omega⟩
  · refine ⟨some ⟨g, 0, none⟩, cap, rfl, fun hp => ⟨g, 0, rfl, fun i hi => ?_⟩, hn⟩
    obtain ⟨e0, e1, e2, e3, e4, e5⟩ := flatT_get l i hi
    have hl := flatT_length l
    refine ⟨?_, ?_, ?_, ?_, ?_, ?_⟩
    · rw [h.cellAt _ (by omega)]; rw [Nat.zero_add]; exact e0
    · rw [h.cellAt _ (by omega)]; rw [Nat.zero_add]; exact e1
    · rw [h.cellAt _ (by omega)]; rw [Nat.zero_add]; exact e2
    · rw [h.cellAt _ (by omega)]; rw [Nat.zero_add]; exact e3
    · rw [h.cellAt _ (by omega)]; rw [Nat.zero_add]; exact e4
    · rw [h.cellAt _ (by omega)]; rw [Nat.zero_add]; exact e5

/-- A call that returns tokens, an offset and an error's number. -/
def RetS (w : World) (x : List Tok × Int × Int) (e : Ending) (w' : World) : Prop :=
  ∃ A c, e = .returned (.tuple #[.slice A x.1.length c, .int .i64 x.2.1, .int .i64 x.2.2]) ∧ TokAt w' A x.1 ∧ x.1.length ≤ c ∧ Below w.heap.size w w'

end

/-! ### Ps1 -/
section
open Go.RowKit

/-- The document's tokens: those of the text and three more ends. -/
structure RefTk (w : World) (A : Option Addr) (L : List Tok) : Prop where
  at_ : TokAt w A (ext3 L)
  ended : Ended L
  few : L.length ≤ 1000
  txt : ∀ i, (tkL L i).t.length ≤ 100000
  lit : ∀ i, ((tkL L i).k = 2 ∨ (tkL L i).k = 3) → parseL (tkL L i).t = ((tkL L i).v, 0)
theorem RefTk.below {w w' : World} {A : Option Addr} {L : List Tok} (h : RefTk w A L) (hb : Below w.heap.size w w') : RefTk w' A L := ⟨h.at_.below hb, h.ended, h.few, h.txt, h.lit⟩
theorem RefTk.cells {w : World} {A : Option Addr} {L : List Tok} (h : RefTk w A L) {i : Nat} (hi : i < L.length + 3) : ∃ b o, A = some ⟨b, o, none⟩ ∧
    w.cell? ⟨b, o + i * 6, none⟩ = some (.int .i64 (tkL L i).k) ∧ w.cell? ⟨b, o + i * 6 + 1, none⟩ = some (.string ⟨(tkL L i).t.toArray⟩) := by
  have hl := ext3_len L
  obtain ⟨b, o, e, hc⟩ := h.at_ (by omega)
  have hi' : i < (ext3 L).length := by omega
  obtain ⟨h0, h1, _⟩ := hc i hi'
  rw [ext3_at h.ended hi'] at h0 h1
  exact ⟨b, o, e, h0, h1⟩

def opI (o : Option Nat) : Int := match o with
  | none => -1
  | some k => k
theorem opT_at {t : Tok} {k : Nat} (hk : k < 6) (h : isT t (opsL.getD k []) = true) (hj : ∀ j, j < k → isT t (opsL.getD j []) = false) : opT t = some k := by
  have e : k = 0 ∨ k = 1 ∨ k = 2 ∨ k = 3 ∨ k = 4 ∨ k = 5 := by omega
  unfold opT
  rcases e with rfl | rfl | rfl | rfl | rfl | rfl
  · simp [opsL, List.findIdx?_cons] at *; simp [h]
  · have h0 := hj 0 (by omega)
    simp [opsL, List.findIdx?_cons] at *; simp [h, h0]
  · have h0 := hj 0 (by omega)
    have h1 := hj 1 (by omega)
    simp [opsL, List.findIdx?_cons] at *; simp [h, h0, h1]
  · have h0 := hj 0 (by omega)
    have h1 := hj 1 (by omega)
    have h2 := hj 2 (by omega)
    simp [opsL, List.findIdx?_cons] at *; simp [h, h0, h1, h2]
  · have h0 := hj 0 (by omega)
    have h1 := hj 1 (by omega)
    have h2 := hj 2 (by omega)
    have h3 := hj 3 (by omega)
    simp [opsL, List.findIdx?_cons] at *; simp [h, h0, h1, h2, h3]
  · have h0 := hj 0 (by omega)
    have h1 := hj 1 (by omega)
    have h2 := hj 2 (by omega)
    have h3 := hj 3 (by omega)
    have h4 := hj 4 (by omega)
    simp [opsL, List.findIdx?_cons] at *; simp [h, h0, h1, h2, h3, h4]
theorem opT_none {t : Tok} (hj : ∀ j, j < 6 → isT t (opsL.getD j []) = false) : opT t = none := by
  have h0 := hj 0 (by omega)
  have h1 := hj 1 (by omega)
  have h2 := hj 2 (by omega)
  have h3 := hj 3 (by omega)
  have h4 := hj 4 (by omega)
  have h5 := hj 5 (by omega)
  unfold opT
  simp [opsL, List.findIdx?_cons] at *
  simp [h0, h1, h2, h3, h4, h5]
abbrev opsO : Obj := .cells #[.string ⟨#[61]⟩, .string ⟨#[33, 61]⟩, .string ⟨#[60]⟩, .string ⟨#[60, 61]⟩, .string ⟨#[62]⟩, .string ⟨#[62, 61]⟩] 9
theorem ops_cell (w : World) {j : Nat} (hj : j < 6) : (w.alloc opsO).cell? ⟨w.heap.size, j, none⟩ = some (.string ⟨(opsL.getD j []).toArray⟩) := by
  rw [cell_of_row _ w.heap.size j _ 9 (0, 0) (heap_alloc_new w _)]
  have e : j = 0 ∨ j = 1 ∨ j = 2 ∨ j = 3 ∨ j = 4 ∨ j = 5 := by omega
  rcases e with rfl | rfl | rfl | rfl | rfl | rfl <;> rfl

end

/-! ### Ps2 -/
section
open Go.RowKit

theorem infoStrP : (Tryz.prog.info? 9).map (fun i => (i.zero, i.size, i.bytes)) = some (some (.string ⟨#[]⟩), 1, 16) := by kernel_rfl
theorem infoKyP : (Tryz.prog.info? 147).map (fun i => (i.zero, i.size, i.bytes)) = some (some (.agg #[.string ⟨#[]⟩, .bool false]), 2, 24) := by kernel_rfl
/-- What names returns. -/
def RetNs (w : World) (o : Out (List Str)) (e : Ending) (w' : World) : Prop := match o with
  | .bad b => e = .returned (.tuple #[.slice none 0 0, .int .i64 b, .int .i64 b]) ∧ Below w.heap.size w w'
  | .ok l nx => ∃ u, e = .returned (.tuple #[u, .int .i64 nx, .int .i64 (-1)]) ∧ w'.ownsRow w.heap.size 9 1 u l.length (l.map nmV) ∧ Below w.heap.size w w'
def RetKs (w : World) (o : Out (List Ky)) (e : Ending) (w' : World) : Prop := match o with
  | .bad b => e = .returned (.tuple #[.slice none 0 0, .int .i64 b, .int .i64 b]) ∧ Below w.heap.size w w'
  | .ok l nx => ∃ u, e = .returned (.tuple #[u, .int .i64 nx, .int .i64 (-1)]) ∧ w'.ownsRow w.heap.size 147 2 u l.length (l.flatMap cellsK) ∧ Below w.heap.size w w'

/-- A box that has just been laid, behind a call. -/
theorem box_kept {w w1 : World} {cs : Array Value} {t : TypeId} (h : Below (w.alloc (.cells cs t)).heap.size (w.alloc (.cells cs t)) w1) : w1.heap[w.heap.size]? = some (.cells cs t) := (h.block _ (by simp)).trans (heap_alloc_new w _)
theorem box_cell {w : World} {g : Nat} {cs : Array Value} {t : TypeId} (h : w.heap[g]? = some (.cells cs t)) (k : Nat) : w.cell? ⟨g, k, none⟩ = cs[k]? := cell_of_row w g k cs t (0, 0) h
theorem box_free {w : World} {g : Nat} {cs : Array Value} {t : TypeId} (h : w.heap[g]? = some (.cells cs t)) (k : Nat) : w.frozen? ⟨g, k, none⟩ = false := by simp [World.frozen?, h]
abbrev keyO (s : Str) : Obj := .cells #[.string ⟨s.toArray⟩, .bool false] 147

end

/-! ### Rt2 -/
section
open Go.RowKit

theorem take_extract (s : ByteArray) (n : Nat) : (s.extract 0 n).data.toList = s.data.toList.take n := by
  simp [ByteArray.data_extract, Array.toList_extract, List.extract]

theorem pre_yes {s : ByteArray} {p : List UInt8} (h : p <+: s.data.toList) : p.length ≤ s.size ∧ ((s.extract 0 p.length).toList == p) = true := by
  obtain ⟨t, ht⟩ := h
  have hl : s.data.toList.length = s.size := by simp
  refine ⟨by rw [← hl, ← ht]; simp, ?_⟩
  rw [Lib.toList_data, take_extract, ← ht]; simp
theorem pre_no {s : ByteArray} {p : List UInt8} (h : ¬ p <+: s.data.toList) (_hl : p.length ≤ s.size) : ((s.extract 0 p.length).toList == p) = false := by
  rw [Lib.toList_data, take_extract]
  simp only [beq_eq_false_iff_ne, ne_eq]
  intro e
  exact h ⟨s.data.toList.drop p.length, by conv => { lhs; lhs; rw [← e] }; exact List.take_append_drop _ _⟩

theorem pre_short {s : ByteArray} {p : List UInt8} (hl : ¬ p.length ≤ s.size) : ¬ p <+: s.data.toList := by
  rintro ⟨t, ht⟩
  have h1 : s.data.toList.length = s.size := by simp
  rw [← ht, List.length_append] at h1
  omega

theorem of_nat_toNat (k : Nat) (h : k < 256) : ((UInt8.ofNat k).toNat : Int) = k := by simp; omega

end
end Go.Proofs.YtjhnopnppimnhaaGreatDoor
