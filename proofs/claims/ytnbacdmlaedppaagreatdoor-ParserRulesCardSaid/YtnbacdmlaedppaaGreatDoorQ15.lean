/-
  PARTS of a claim, merged by segs.py: Rt1, Rt2, Pint.
-/
import Derived.Test.YtnbacdmlaedppaaGreatDoorQ14
import Derived.Test.YtnbacdmlaedppaaGreatDoorQ07
import Derived.Test.YtnbacdmlaedppaaGreatDoorQ04
import Derived.Test.YtnbacdmlaedppaaGreatDoorShelf2
import Derived.Lib.SmallJoins
namespace Go.Proofs.YtnbacdmlaedppaaGreatDoor

/-! ### Rt1 -/
section
open Go.RowKit

set_option maxRecDepth 100000 in
set_option maxHeartbeats 1000000 in
theorem ref_hex (n : Int) (h0 : 0 ≤ n) (h1 : n < 16) (w : World) {x : UInt8} (hx : hexd n.toNat = x) :
    Calls Tryz.prog 138 #[.int .u8 n] w fun e w' => e = .returned (.string ⟨#[x]⟩) ∧ Below w.heap.size w w' := by
  by_cases h : n < 10
  · have hc : 48 + n = x.toNat := by
      rw [← hx]; unfold hexd; rw [if_pos (by omega)]; simp; omega
    have hl := fun W => lit1 W x _ hc
    clear hx hc
    go_enter Tryz.func138, Tryz.ntmps138
    go_wp2
    go_ret
    exact ⟨rfl, below_one _ _⟩
  · have hc : 97 + n - 10 = x.toNat := by
      rw [← hx]; unfold hexd; rw [if_neg (by omega)]; simp; omega
    have hl := fun W => lit1 W x _ hc
    clear hx hc
    go_enter Tryz.func138, Tryz.ntmps138
    go_wp2
    go_ret
    exact ⟨rfl, below_one _ _⟩

set_option maxRecDepth 100000 in
set_option maxHeartbeats 1000000 in
theorem ref_char (b : UInt8) (w : World) {x : List UInt8} (hx : spell b = x) :
    Calls Tryz.prog 127 #[.int .u8 b.toNat] w fun e w' => e = .returned (.string ⟨x.toArray⟩) ∧ Below w.heap.size w w' := by
  have hb : b.toNat < 256 := b.toNat_lt
  have hcase : (b.toNat = 34 ∨ b.toNat = 92) ∨ b.toNat = 10 ∨ b.toNat = 9 ∨ (32 ≤ b.toNat ∧ b.toNat ≤ 126 ∧ b.toNat ≠ 34 ∧ b.toNat ≠ 92) ∨ ((b.toNat < 32 ∨ 126 < b.toNat) ∧ b.toNat ≠ 10 ∧ b.toNat ≠ 9) := by omega
  rcases id hcase with h | h | h | h | h
  · have e : spell b = [92, b] := by unfold spell; rw [if_pos h]
    rw [e] at hx
    subst hx
    rcases h with h | h
    · obtain rfl : b = 34 := UInt8.toNat.inj h
      have hl := fun W => lit2 W 92 34 92 34 rfl rfl
      clear hcase h e
      go_enter Tryz.func127, Tryz.ntmps127
      go_wp2
      go_ret
      exact ⟨rfl, below_one _ _⟩
    · obtain rfl : b = 92 := UInt8.toNat.inj h
      have hl := fun W => lit2 W 92 92 92 92 rfl rfl
      clear hcase h e
      go_enter Tryz.func127, Tryz.ntmps127
      go_wp2
      go_ret
      exact ⟨rfl, below_one _ _⟩
  · have e : spell b = [92, 110] := by unfold spell; rw [if_neg (by omega), if_pos h]
    rw [e] at hx
    subst hx
    go_enter Tryz.func127, Tryz.ntmps127
    go_wp2
    go_ret
    exact ⟨rfl, Below.refl _ _⟩
  · have e : spell b = [92, 116] := by unfold spell; rw [if_neg (by omega), if_neg (by omega), if_pos h]
    rw [e] at hx
    subst hx
    go_enter Tryz.func127, Tryz.ntmps127
    go_wp2
    go_ret
    exact ⟨rfl, Below.refl _ _⟩
  · obtain ⟨g1, g2, g3, g4⟩ := h
    have e : spell b = [b] := by unfold spell; rw [if_neg (by omega), if_neg (by omega), if_neg (by omega), if_pos ⟨g1, g2⟩]
    rw [e] at hx
    subst hx
    have b34 : ((b.toNat : Int) == 34) = false := by simp; omega
    have b92 : ((b.toNat : Int) == 92) = false := by simp; omega
    have b10 : ((b.toNat : Int) == 10) = false := by simp; omega
    have b9 : ((b.toNat : Int) == 9) = false := by simp; omega
    have hl := fun W => lit1 W b _ (show (b.toNat : Int) = b.toNat from rfl)
    go_enter Tryz.func127, Tryz.ntmps127
    go_wp2
    go_ret
    exact ⟨rfl, below_one _ _⟩
  · obtain ⟨g1, g2, g3⟩ := h
    have e : spell b = [92, 120, hexd (b.toNat / 16), hexd (b.toNat % 16)] := by unfold spell; rw [if_neg (by omega), if_neg (by omega), if_neg (by omega), if_neg (by omega)]
    rw [e] at hx
    subst hx
    have b34 : ((b.toNat : Int) == 34) = false := by simp; omega
    have b92 : ((b.toNat : Int) == 92) = false := by simp; omega
    have b10 : ((b.toNat : Int) == 10) = false := by simp; omega
    have b9 : ((b.toNat : Int) == 9) = false := by simp; omega
    have H1 := fun W => hid (ref_hex ((b.toNat : Int) / 16) (by omega) (by omega) W (x := hexd (b.toNat / 16)) (by congr 1))
    have H2 := fun W => hid (ref_hex ((b.toNat : Int) % 16) (by omega) (by omega) W (x := hexd (b.toNat % 16)) (by congr 1))
    generalize hexd (b.toNat / 16) = p at *
    generalize hexd (b.toNat % 16) = q at *
    have i1 : 0 ≤ (b.toNat : Int) / 16 := by omega
    have i2 : (b.toNat : Int) / 16 < 16 := by omega
    have i3 : 0 ≤ (b.toNat : Int) % 16 := by omega
    have i4 : (b.toNat : Int) % 16 < 16 := by omega
    clear g2 g3 e
    rcases g1 with g1 | g1
    all_goals
      go_enter Tryz.func127, Tryz.ntmps127
      go_wp2_with fail
      refine (H1 _).out.mono ?_
      rintro e w1 ⟨rfl, k1⟩
      go_wp2_with fail
      refine (H2 _).out.mono ?_
      rintro e w2 ⟨rfl, k2⟩
      have k2' := k1.trans (k2.mono k1.size)
      clear k1 k2 H1 H2
      go_wp2
      go_ret
      exact ⟨rfl, k2'⟩

end

/-! ### Rt2 -/
section
open Go.RowKit

theorem take_extract (s : ByteArray) (n : Nat) : (s.extract 0 n).data.toList = s.data.toList.take n := by
  simp [ByteArray.data_extract, Array.toList_extract, List.extract]

theorem pre_yes {s : ByteArray} {p : List UInt8} (h : p <+: s.data.toList) : p.length ≤ s.size ∧ ((s.extract 0 p.length).toList == p) = true := by
  obtain ⟨t, ht⟩ := h
  have hl : s.data.toList.length = s.size := by simp
  refine ⟨by rw [← hl, ← ht]; simp, ?_⟩
  rw [Lib.toList_data, take_extract, ← ht]; simp
theorem pre_no {s : ByteArray} {p : List UInt8} (h : ¬ p <+: s.data.toList) (_hl : p.length ≤ s.size) : ((s.extract 0 p.length).toList == p) = false := by
  rw [Lib.toList_data, take_extract]
  simp only [beq_eq_false_iff_ne, ne_eq]
  intro e
  exact h ⟨s.data.toList.drop p.length, by conv => { lhs; lhs; rw [← e] }; exact List.take_append_drop _ _⟩

theorem pre_short {s : ByteArray} {p : List UInt8} (hl : ¬ p.length ≤ s.size) : ¬ p <+: s.data.toList := by
  rintro ⟨t, ht⟩
  have h1 : s.data.toList.length = s.size := by simp
  rw [← ht, List.length_append] at h1
  omega

theorem of_nat_toNat (k : Nat) (h : k < 256) : ((UInt8.ofNat k).toNat : Int) = k := by simp; omega

set_option maxRecDepth 100000 in
set_option maxHeartbeats 1000000 in
theorem ref_width (s : ByteArray) (w : World) (_hs : s.size ≤ 100000) {b : UInt8} {n : Nat} (hx : unq s.data.toList = (b, n)) :
    Calls Tryz.prog 117 #[.string s] w fun e w' => e = .returned (.tuple #[.int .i64 n, .int .u8 b.toNat]) ∧ Below w.heap.size w w' := by
  have HX := hid hx
  clear hx
  go_enter Tryz.func117, Tryz.ntmps117
  go_wp2
  go_loopw [4] (fun i wr => ∃ (k : Nat), k ≤ 256 ∧ i = .int .i64 k ∧ Hid (∀ j < k, ¬ spell (UInt8.ofNat j) <+: s.data.toList) ∧ Below w.heap.size w wr) (fun i _ => 256 - (intOf i).toNat)
  case atStart => exact ⟨0, by omega, rfl, hid (fun j hj => by omega), Below.refl _ _⟩
  case round =>
    obtain ⟨k, hk, rfl, HP, hbel⟩ := hrel
    by_cases hlt : k < 256
    · have H1 := fun W => hid (ref_char (UInt8.ofNat k) W rfl)
      rw [of_nat_toNat k hlt] at H1
      have ls := spell_length (UInt8.ofNat k)
      by_cases hp : spell (UInt8.ofNat k) <+: s.data.toList
      · have hf := width_found hp
        rw [HX.out] at hf
        injection hf with e1 e2
        obtain ⟨g1, g2⟩ := pre_yes hp
        have E2 : Hid (n = (spell (UInt8.ofNat k)).length) := hid e2
        have E1 : Hid ((b.toNat : Int) = k) := hid (by rw [e1]; exact of_nat_toNat k hlt)
        clear e1 e2 hp HX HP
        generalize spell (UInt8.ofNat k) = p at *
        go_wp2_with fail
        refine (H1 _).out.mono ?_
        rintro e w1 ⟨rfl, k1⟩
        have hbel1 := hbel.trans (k1.mono hbel.size)
        clear k1 H1
        go_wp2
        go_ret2
        rw [E1.out, E2.out]
        exact ⟨rfl, hbel1⟩
      · have HP2 : Hid (∀ j < k + 1, ¬ spell (UInt8.ofNat j) <+: s.data.toList) := hid (fun j hj => by
          by_cases e : j = k
          · rw [e]; exact hp
          · exact HP.out j (by omega))
        by_cases hl : (spell (UInt8.ofNat k)).length ≤ s.size
        · have g2 := pre_no hp hl
          clear hp HX HP
          generalize spell (UInt8.ofNat k) = p at *
          go_wp2_with fail
          refine (H1 _).out.mono ?_
          rintro e w1 ⟨rfl, k1⟩
          have hbel1 := hbel.trans (k1.mono hbel.size)
          clear k1 H1
          go_wp2
          go_roundw
          case rel => exact ⟨k + 1, by omega, by go_num, HP2, hbel1⟩
          case measure => simp [intOf]; omega
        · clear hp HX HP
          generalize spell (UInt8.ofNat k) = p at *
          go_wp2_with fail
          refine (H1 _).out.mono ?_
          rintro e w1 ⟨rfl, k1⟩
          have hbel1 := hbel.trans (k1.mono hbel.size)
          clear k1 H1
          go_wp2
          go_roundw
          case rel => exact ⟨k + 1, by omega, by go_num, HP2, hbel1⟩
          case measure => simp [intOf]; omega
    · obtain rfl : k = 256 := by omega
      have hf := width_none HP.out
      rw [HX.out] at hf
      injection hf with e1 e2
      subst e1 e2
      clear HP HX
      go_wp2
      go_ret2
      exact ⟨rfl, hbel⟩
end

/-! ### Pint -/
section
open Go.RowKit

/-- The variable strconv.ErrRange holds an error. -/
def ErrAt (w : World) : Prop := ∃ te pe, w.cell? ⟨4, 0, none⟩ = some (.iface te pe)
theorem ErrAt.below {w w' : World} (h : ErrAt w) (hb : Below w.heap.size w w') : ErrAt w' := by
  obtain ⟨te, pe, h⟩ := h
  exact ⟨te, pe, by rw [hb.cell (p := ⟨4, 0, none⟩) (cell_lt h)]; exact h⟩

theorem trim_mag (l : List UInt8) : Lib.trimPrefix l [45] = magL l := by
  unfold Lib.trimPrefix magL negL Lib.hasPrefix
  match l with
  | [] => rfl
  | c :: r =>
    by_cases h : c = 45
    · subst h; rfl
    · have e : (c == 45) = false := by simpa using h
      have e' : ((45 : UInt8) == c) = false := by simpa using fun h' => h h'.symm
      have h2 : ¬ (45 : UInt8) = c := fun h' => h h'.symm
      simp [e, h2]

/-- strconv.ParseInt at a sign and digits. -/
theorem parse_int_lib (s : ByteArray) (w : World) (hs : s.size ≤ 100000) (he : ErrAt w) (hn : magL s.data.toList ≠ []) (hd : digs (magL s.data.toList) = true) :
    Calls Tryz.prog 121 #[.string s, .int .i64 10, .int .i64 64] w fun e w' =>
      ((topL s.data.toList < numVal (magL s.data.toList) → ∃ n t p, e = .returned (.tuple #[.int .i64 n, .iface t p])) ∧
       (¬ topL s.data.toList < numVal (magL s.data.toList) → e = .returned (.tuple #[.int .i64 (if negL s.data.toList = true then - (numVal (magL s.data.toList) : Int) else numVal (magL s.data.toList)), .nilIface]))) ∧ Below w.heap.size w w' := by
  have hp := parseI_eq hn hd
  by_cases h : topL s.data.toList < numVal (magL s.data.toList)
  · rw [if_pos h] at hp
    obtain ⟨te, pe, he⟩ := he
    refine (Tryz.strconv_ParseInt_10_at64_range s (by omega) hp _ w he (.inr ⟨te, pe, rfl⟩)).mono fun e w' ⟨N, h1, _, _, h4⟩ => ?_
    exact ⟨⟨fun _ => ⟨_, _, _, h1⟩, fun h' => absurd h h'⟩, h4⟩
  · rw [if_neg h] at hp
    refine (Tryz.strconv_ParseInt_10_at64_ok s (by omega) _ hp w).mono fun e w' ⟨h1, h2⟩ => ?_
    refine ⟨⟨fun h' => absurd h' h, fun _ => h1⟩, ?_⟩
    rcases h2 with rfl | ⟨t, rfl⟩
    · exact Below.refl _ _
    · exact Lib.bytesWorld_below _ _ _

theorem digs_step {d : List UInt8} {k : Nat} (h : k < d.length) (hd : isDig d[k]) : digs (d.drop k) = digs (d.drop (k + 1)) := by
  rw [List.drop_eq_getElem_cons h]; unfold digs; rw [List.all_cons]; simp only [hd, decide_true, Bool.true_and]
theorem digs_stop {d : List UInt8} {k : Nat} (h : k < d.length) (hd : ¬ isDig d[k]) : digs (d.drop k) = false := by
  rw [List.drop_eq_getElem_cons h]; unfold digs; rw [List.all_cons]; simp only [hd, decide_false, Bool.false_and]

/-- The second half of an integer literal's reading. -/
def pInt2 (l : List UInt8) : V × Int :=
  if digs (magL l) = false then (V0, 15) else if topL l < numVal (magL l) then (V0, 3) else (intV1 (if negL l = true then - (numVal (magL l) : Int) else numVal (magL l)), 0)
theorem pInt_1 {l : List UInt8} (h : magL l = [] ∨ ((magL l).getD 0 0 = 48 ∧ (1 < (magL l).length ∨ negL l = true))) : pInt l = (V0, 15) := by unfold pInt; rw [if_pos h]
theorem pInt_2 {l : List UInt8} (h : ¬ (magL l = [] ∨ ((magL l).getD 0 0 = 48 ∧ (1 < (magL l).length ∨ negL l = true)))) : pInt l = pInt2 l := by unfold pInt; rw [if_neg h]; rfl

theorem zero_iff {l : List UInt8} (h : (magL l).getD 0 0 = 48) (hn : magL l ≠ []) : (1 < (magL l).length ∨ negL l = true) ↔ l ≠ [48] := by
  unfold magL at *
  cases hl : negL l
  · simp only [hl, Bool.false_eq_true, if_false, or_false] at *
    constructor
    · intro h1 e; subst e; simp at h1
    · intro h1
      match l, hn with
      | [c], _ => simp at h; subst h; exact absurd rfl h1
      | _ :: _ :: _, _ => simp
  · simp only [or_true, true_iff]
    intro e; subst e; exact absurd hl (by decide)

set_option maxRecDepth 100000 in
set_option maxHeartbeats 1000000 in
theorem parse_int (s : ByteArray) (w : World) (hs : s.size ≤ 100000) (he : ErrAt w) {x : V × Int} (hx : pInt s.data.toList = x) :
    Calls Tryz.prog 114 #[.string s] w (RetV w x) := by
  obtain ⟨D, hD⟩ : ∃ D : ByteArray, D = ⟨(Lib.trimPrefix s.data.toList [45]).toArray⟩ := ⟨_, rfl⟩
  have HT : ∀ W, Hid (Calls Tryz.prog 120 #[.string s, .string ⟨#[45]⟩] W fun e w' => e = .returned (.string D) ∧ w' = W) := fun W => hid (by rw [hD]; exact Tryz.strings_TrimPrefix s ⟨#[45]⟩ W)
  have hDl : D.data.toList = magL s.data.toList := by rw [hD, ← trim_mag]
  have hsd : D.size ≤ s.size := by
    have h1 : D.data.toList.length = D.size := by simp
    have h2 : s.data.toList.length = s.size := by simp
    have h3 : (magL s.data.toList).length ≤ s.data.toList.length := by unfold magL; split <;> simp
    rw [← hDl] at h3; omega
  have k0 := below_one w (.cells #[.int .i64 0, .int .i64 0, .string ⟨#[]⟩] 56)
  have tl : ∀ B : ByteArray, B.toList = B.data.toList := fun B => Lib.toList_data _
  clear hD
  by_cases hn : magL s.data.toList = []
  · rw [pInt_1 (.inl hn)] at hx
    subst hx
    have eD : D.toList.isEmpty = true := by rw [tl, hDl, hn]; rfl
    clear hDl hn tl
    go_enter Tryz.func114, Tryz.ntmps114
    go_wp2_with fail
    refine (HT _).out.mono ?_
    rintro e w1 ⟨rfl, rfl⟩
    have hz := heap_alloc_new w (.cells #[.int .i64 0, .int .i64 0, .string ⟨#[]⟩] 56)
    go_wp2_with (refine wpList_store_res rfl rfl rfl rfl hz infoVal rfl rfl ?_; intro w3 hz3 hb3)
    refine bodyPost_ret (by simp [results, Tryz.results114, go_sem, cell_res hz3]; rfl) rfl ?_
    exact ⟨rfl, k0.trans hb3⟩
  · have eD : D.toList.isEmpty = false := by rw [tl, hDl]; simpa using hn
    have hpos : 0 < D.size := by
      have h1 : D.data.toList.length = D.size := by simp
      have := List.length_pos_iff.2 hn
      rw [← hDl] at this; omega
    have hg0 : (magL s.data.toList).getD 0 0 = D[0] := by rw [← hDl]; exact getD_of hpos
    by_cases hA : D[0].toNat = 48 ∧ s.toList ≠ [48]
    · have e48 : (magL s.data.toList).getD 0 0 = 48 := by rw [hg0]; exact UInt8.toNat.inj hA.1
      rw [pInt_1 (.inr ⟨e48, (zero_iff e48 hn).2 (by rw [← tl]; exact hA.2)⟩)] at hx
      subst hx
      have eS : (s.toList == [48]) = false := by simpa using hA.2
      have e0 := hA.1
      clear hDl hn tl hA hg0 e48
      go_enter Tryz.func114, Tryz.ntmps114
      go_wp2_with fail
      refine (HT _).out.mono ?_
      rintro e w1 ⟨rfl, rfl⟩
      have hz := heap_alloc_new w (.cells #[.int .i64 0, .int .i64 0, .string ⟨#[]⟩] 56)
      go_wp2_with (refine wpList_store_res rfl rfl rfl rfl hz infoVal rfl rfl ?_; intro w3 hz3 hb3)
      refine bodyPost_ret (by simp [results, Tryz.results114, go_sem, cell_res hz3]; rfl) rfl ?_
      exact ⟨rfl, k0.trans hb3⟩
    · rw [pInt_2 (fun h => h.elim hn fun ⟨h1, h2⟩ => hA ⟨by rw [← hg0, h1]; rfl, by rw [tl]; exact (zero_iff h1 hn).1 h2⟩)] at hx
      have hcase : (D[0].toNat = 48 ∧ (s.toList == [48]) = true) ∨ ((D[0].toNat : Int) == 48) = false := by
        by_cases h : D[0].toNat = 48
        · by_cases h' : s.toList = [48]
          · exact .inl ⟨h, by rw [h']; rfl⟩
          · exact absurd ⟨h, h'⟩ hA
        · right; simp; omega
      unfold pInt2 at hx
      have HP := fun W (h : Below w.heap.size w W) hd => hid (parse_int_lib s W hs (he.below h) hn hd)
      rw [← hDl] at hx
      have HX : Hid ((if digs (D.data.toList.drop 0) = false then (V0, 15) else if topL s.data.toList < numVal D.data.toList then (V0, 3) else (intV1 (if negL s.data.toList = true then - (numVal D.data.toList : Int) else numVal D.data.toList), (0 : Int))) = x) := hid hx
      rw [← hDl] at HP
      clear hx hA hn hg0 tl hDl
      generalize topL s.data.toList = T at *
      generalize (if negL s.data.toList = true then - (numVal D.data.toList : Int) else numVal D.data.toList) = R at *
      generalize numVal D.data.toList = N at *
      rcases hcase with ⟨e0, eS⟩ | e0
      all_goals
        go_enter Tryz.func114, Tryz.ntmps114
        go_wp2_with fail
        refine (HT _).out.mono ?_
        rintro e w1 ⟨rfl, rfl⟩
        clear HT
        go_wp2
        go_loopw [24] (fun i wr => ∃ (k : Nat), k ≤ D.size ∧ i = .int .i64 k ∧ Hid (digs (D.data.toList.drop k) = digs D.data.toList) ∧ Hid ((if digs (D.data.toList.drop k) = false then (V0, 15) else if T < N then (V0, 3) else (intV1 R, (0 : Int))) = x) ∧ Below (w.heap.size + 1) (w.alloc (.cells #[.int .i64 0, .int .i64 0, .string ⟨#[]⟩] 56)) wr) (fun i _ => D.size - (intOf i).toNat)
        case atStart => exact ⟨0, by omega, rfl, hid rfl, HX, Below.refl _ _⟩
        case round =>
          obtain ⟨k, hk, rfl, HD, HK, hbel⟩ := hrel
          clear HX
          have hz := res_keep (heap_alloc_new w _) hbel (by omega)
          have hsz : w.heap.size < wr.heap.size := by have := hbel.size; simp at this; omega
          have hbw : Below w.heap.size w wr := k0.trans (hbel.mono (by omega))
          by_cases hlt : k < D.size
          · have hlt' : k < D.data.toList.length := by simpa using hlt
            by_cases hdg : isDig D[k]
            · rw [digs_step hlt' hdg] at HK HD
              unfold isDig at hdg
              obtain ⟨g1, g2⟩ := hdg
              clear HP
              go_wp2
              go_roundw
              case rel => exact ⟨k + 1, by omega, by go_num, HD, HK, hbel⟩
              case measure => simp [intOf]; omega
            · rw [digs_stop hlt' hdg, if_pos rfl] at HK
              obtain rfl := HK.out
              unfold isDig at hdg
              have hq : D[k].toNat < 48 ∨ 57 < D[k].toNat := by omega
              clear HP HK hdg
              rcases hq with hq | hq
              all_goals
                go_wp2_with (refine wpList_store_res rfl rfl rfl rfl hz infoVal rfl rfl ?_; intro w3 hz3 hb3)
                refine bodyPost_ret (by simp [results, Tryz.results114, go_sem, cell_res hz3]; rfl) rfl ?_
                exact ⟨rfl, hbw.trans hb3⟩
          · have e : D.data.toList.drop k = [] := List.drop_eq_nil_of_le (by simp; omega)
            rw [e] at HD HK
            have hdd : digs D.data.toList = true := by rw [← HD.out]; rfl
            have HP2 := fun W (hb : Below w.heap.size w W) => hid (HP W hb hdd).out
            clear HD HP
            by_cases hTN : T < N
            · rw [if_neg (by simp [digs]), if_pos hTN] at HK
              obtain rfl := HK.out
              clear HK
              go_wp2_with fail
              refine (HP2 _ hbw).out.mono ?_
              rintro e w1 ⟨⟨he1, _⟩, b1⟩
              obtain ⟨n, t', p, rfl⟩ := he1 hTN
              have hz2 := res_keep hz b1 hsz
              have hbw2 := hbw.trans (b1.mono (by omega))
              clear HP2
              go_wp2_with (refine wpList_store_res rfl rfl rfl rfl hz2 infoVal rfl rfl ?_; intro w3 hz3 hb3)
              refine bodyPost_ret (by simp [results, Tryz.results114, go_sem, cell_res hz3]; rfl) rfl ?_
              exact ⟨rfl, hbw2.trans hb3⟩
            · rw [if_neg (by simp [digs]), if_neg hTN] at HK
              obtain rfl := HK.out
              clear HK
              go_wp2_with fail
              refine (HP2 _ hbw).out.mono ?_
              rintro e w1 ⟨⟨_, he2⟩, b1⟩
              obtain rfl := he2 hTN
              have hz2 := res_keep hz b1 hsz
              have hbw2 := hbw.trans (b1.mono (by omega))
              have HI := fun W => hid (value_int R W)
              clear HP2 he2
              go_wp2_with fail
              refine (HI _).out.mono ?_
              rintro e w2 ⟨rfl, b2⟩
              have hz2' := res_keep hz2 b2 (by have := b1.size; omega)
              have hbw2' := hbw2.trans (b2.mono (by have := b1.size; omega))
              go_wp2_with (refine wpList_store_res rfl rfl rfl rfl hz2' infoVal rfl rfl ?_; intro w3 hz3 hb3)
              refine bodyPost_ret (by simp [results, Tryz.results114, go_sem, cell_res hz3]; rfl) rfl ?_
              exact ⟨rfl, hbw2'.trans hb3⟩

theorem parse_lit (s : ByteArray) (w : World) (hs : s.size ≤ 100000) (he : ErrAt w) {x : V × Int} (hx : parseL s.data.toList = x) :
    Calls Tryz.prog 100 #[.string s] w (RetV w x) := by
  have k0 := below_one w (.cells #[.int .i64 0, .int .i64 0, .string ⟨#[]⟩] 56)
  have hz := heap_alloc_new w (.cells #[.int .i64 0, .int .i64 0, .string ⟨#[]⟩] 56)
  have tl : ∀ B : ByteArray, B.toList = B.data.toList := fun B => Lib.toList_data _
  unfold parseL at hx
  by_cases h0 : s.data.toList = []
  · rw [if_pos h0] at hx
    subst hx
    have eD : s.toList.isEmpty = true := by rw [tl, h0]; rfl
    clear tl h0
    go_enter Tryz.func100, Tryz.ntmps100
    go_wp2_with (refine wpList_store_res rfl rfl rfl rfl hz infoVal rfl rfl ?_; intro w3 hz3 hb3)
    refine bodyPost_ret (by simp [results, Tryz.results100, go_sem, cell_res hz3]; rfl) rfl ?_
    exact ⟨rfl, k0.trans hb3⟩
  · rw [if_neg h0] at hx
    have eD : s.toList.isEmpty = false := by rw [tl]; simpa using h0
    have hpos : 0 < s.size := by
      have h1 : s.data.toList.length = s.size := by simp
      have := List.length_pos_iff.2 h0
      omega
    rw [getD_of hpos] at hx
    by_cases h34 : s[0] = 34
    · rw [if_pos h34] at hx
      have e34 : s[0].toNat = 34 := by rw [h34]; rfl
      have HS := fun W => hid (parse_str s W hpos hs hx)
      clear tl h0 hx h34
      go_enter Tryz.func100, Tryz.ntmps100
      go_wp2_with fail
      refine (HS _).out.mono ?_
      rintro e w1 ⟨rfl, b1⟩
      have hz2 := res_keep hz b1 (by simp)
      have hbw := k0.trans (b1.mono (by simp))
      go_wp2_with (refine wpList_store_res rfl rfl rfl rfl hz2 infoVal rfl rfl ?_; intro w3 hz3 hb3)
      refine bodyPost_ret (by simp [results, Tryz.results100, go_sem, cell_res hz3]; rfl) rfl ?_
      exact ⟨rfl, hbw.trans hb3⟩
    · rw [if_neg h34] at hx
      have e34 : ((s[0].toNat : Int) == 34) = false := by
        have : s[0].toNat ≠ 34 := fun e => h34 (UInt8.toNat.inj e)
        simp; omega
      have HS := fun W (h : Below w.heap.size w W) => hid (parse_int s W hs (he.below h) hx)
      clear tl h0 hx h34
      go_enter Tryz.func100, Tryz.ntmps100
      go_wp2_with fail
      refine (HS _ k0).out.mono ?_
      rintro e w1 ⟨rfl, b1⟩
      have hz2 := res_keep hz b1 (by simp)
      have hbw := k0.trans (b1.mono (by simp))
      go_wp2_with (refine wpList_store_res rfl rfl rfl rfl hz2 infoVal rfl rfl ?_; intro w3 hz3 hb3)
      refine bodyPost_ret (by simp [results, Tryz.results100, go_sem, cell_res hz3]; rfl) rfl ?_
      exact ⟨rfl, hbw.trans hb3⟩
/-- What the chapter's laws ask of the world: the table of powers of ten, the variable strconv.ErrRange. -/
structure Env (w : World) : Prop where
  tab : Tab w
  err : ErrAt w
theorem Env.below {w w' : World} (h : Env w) (hb : Below w.heap.size w w') : Env w' := ⟨h.tab.below hb, h.err.below hb⟩

end
end Go.Proofs.YtnbacdmlaedppaaGreatDoor
