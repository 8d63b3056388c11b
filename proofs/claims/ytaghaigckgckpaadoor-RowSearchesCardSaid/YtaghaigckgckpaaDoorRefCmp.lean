/-
  WALKS: the reference's comparisons of strings, values and rows.
-/
import Derived.Test.YtaghaigckgckpaaDoorRow2
namespace Go.Proofs.YtaghaigckgckpaaDoor
open Go.RowKit

theorem cmpB_step {a b : List UInt8} {k : Nat} (h : k < a.length) (h' : k < b.length) (e : a[k].toNat = b[k].toNat) :
    Lib.compareBytes (a.drop k) (b.drop k) = Lib.compareBytes (a.drop (k + 1)) (b.drop (k + 1)) := by
  rw [List.drop_eq_getElem_cons h, List.drop_eq_getElem_cons h']
  have : a[k] = b[k] := UInt8.toNat.inj e
  simp [Lib.compareBytes, this]
theorem cmpB_lt {a b : List UInt8} {k : Nat} (h : k < a.length) (h' : k < b.length) (e : a[k].toNat < b[k].toNat) : Lib.compareBytes (a.drop k) (b.drop k) = -1 := by
  rw [List.drop_eq_getElem_cons h, List.drop_eq_getElem_cons h']
  simp only [Lib.compareBytes, UInt8.lt_iff_toNat_lt]; rw [if_pos e]
theorem cmpB_gt {a b : List UInt8} {k : Nat} (h : k < a.length) (h' : k < b.length) (e : b[k].toNat < a[k].toNat) : Lib.compareBytes (a.drop k) (b.drop k) = 1 := by
  rw [List.drop_eq_getElem_cons h, List.drop_eq_getElem_cons h']
  simp only [Lib.compareBytes, UInt8.lt_iff_toNat_lt]; rw [if_neg (by omega), if_pos e]

/-- The sign of a number. -/
def sgn (r : Int) : Int := if r < 0 then -1 else if 0 < r then 1 else 0
theorem cmpB_end {a b : List UInt8} {k : Nat} (h : k ≤ a.length) (h' : k ≤ b.length) (hk : k = a.length ∨ k = b.length) :
    Lib.compareBytes (a.drop k) (b.drop k) = sgn ((a.length : Int) - b.length) := by
  unfold sgn
  rcases hk with hk | hk
  · have e : a.drop k = [] := List.drop_eq_nil_of_le (by omega)
    rw [e]
    by_cases hl : a.length < b.length
    · rw [if_pos (by omega), List.drop_eq_getElem_cons (show k < b.length by omega)]; rfl
    · have e' : b.drop k = [] := List.drop_eq_nil_of_le (by omega)
      rw [if_neg (by omega), if_neg (by omega), e']; rfl
  · have e : b.drop k = [] := List.drop_eq_nil_of_le (by omega)
    rw [e]
    by_cases hl : b.length < a.length
    · rw [if_neg (by omega), if_pos (by omega), List.drop_eq_getElem_cons (show k < a.length by omega)]; rfl
    · have e' : a.drop k = [] := List.drop_eq_nil_of_le (by omega)
      rw [if_neg (by omega), if_neg (by omega), e']; rfl

/-- A call that returns a number of a known sign. -/
def RetSgn (w : World) (x : Int) (e : Ending) (w' : World) : Prop := ∃ r : Int, e = .returned (.int .i64 r) ∧ sgn r = x ∧ Below w.heap.size w w'

theorem below_drew' {w w' : World} (n : Nat) (h : Below w.heap.size w w') : Below w.heap.size w (w'.drewN n) := below_drewN h n

set_option maxRecDepth 100000 in
set_option maxHeartbeats 1000000 in
theorem ref_compare (a b : ByteArray) (w : World) (ha : a.size ≤ 9223372036854775807) (hb : b.size ≤ 9223372036854775807) {x : Int} (hx : Lib.compareBytes a.data.toList b.data.toList = x) :
    Calls Tryd.prog 46 #[.string a, .string b] w (RetSgn w x) := by
  have HX : Hid (Lib.compareBytes (a.data.toList.drop 0) (b.data.toList.drop 0) = x) := hid hx
  clear hx
  go_enter Tryd.func46, Tryd.ntmps46
  go_wp2
  go_loopw [5] (fun i wr => ∃ k : Nat, k ≤ a.size ∧ k ≤ b.size ∧ i = .int .i64 k ∧ Below w.heap.size w wr ∧ Hid (Lib.compareBytes (a.data.toList.drop k) (b.data.toList.drop k) = x)) (fun i _ => a.size - (intOf i).toNat)
  case atStart => exact ⟨0, by omega, by omega, rfl, Below.refl _ _, HX⟩
  case round =>
    obtain ⟨k, hk, hk', rfl, hbel, HK⟩ := hrel
    clear HX
    by_cases hlt : k < a.size ∧ k < b.size
    · obtain ⟨h1, h2⟩ := hlt
      have d1 : decide ((k : Int) < a.size) = true := by simpa using h1
      have d2 : decide ((k : Int) < b.size) = true := by simpa using h2
      have e1 := fun e => cmpB_step (a := a.data.toList) (b := b.data.toList) (k := k) (by simpa using h1) (by simpa using h2) e
      have e2 := fun e => cmpB_lt (a := a.data.toList) (b := b.data.toList) (k := k) (by simpa using h1) (by simpa using h2) e
      have e3 := fun e => cmpB_gt (a := a.data.toList) (b := b.data.toList) (k := k) (by simpa using h1) (by simpa using h2) e
      have E1 : Hid (a[k].toNat = b[k].toNat → _) := hid e1
      have E2 : Hid (a[k].toNat < b[k].toNat → _) := hid e2
      have E3 : Hid (b[k].toNat < a[k].toNat → _) := hid e3
      clear e1 e2 e3
      have l1 : (k : Int) < a.size := by omega
      have l2 : (k : Int) < b.size := by omega
      rcases Nat.lt_trichotomy a[k].toNat b[k].toNat with h | h | h
      · have ex : Hid (-1 = x) := hid ((E2.out h).symm.trans HK.out)
        clear E1 E2 E3 HK
        go_wp2
        go_quiet (fail)
        go_wp2
        go_ret
        exact ⟨-1, rfl, ex.out ▸ rfl, below_drewN hbel _⟩
      · have HK2 : Hid (Lib.compareBytes (a.data.toList.drop (k + 1)) (b.data.toList.drop (k + 1)) = x) := hid ((E1.out h).symm.trans HK.out)
        have f1 : decide ((a[k].toNat : Int) < b[k].toNat) = false := by simp; omega
        have f2 : decide ((b[k].toNat : Int) < a[k].toNat) = false := by simp; omega
        have f3 : decide (a[k].toNat < b[k].toNat) = false := by simp; omega
        have f4 : decide (b[k].toNat < a[k].toNat) = false := by simp; omega
        have g1 : ¬ a[k].toNat < b[k].toNat := by omega
        have g2 : ¬ b[k].toNat < a[k].toNat := by omega
        clear E1 E2 E3 HK h
        go_wp2
        go_quiet (fail)
        go_wp2
        go_quiet (fail)
        go_wp2
        go_roundw
        case rel => exact ⟨k + 1, by omega, by omega, by go_num, below_drewN hbel _, HK2⟩
        case measure => simp [intOf]; omega
      · have ex : Hid (1 = x) := hid ((E3.out h).symm.trans HK.out)
        have g1 : ¬ a[k].toNat < b[k].toNat := by omega
        clear E1 E2 E3 HK
        go_wp2
        go_quiet (fail)
        go_wp2
        go_quiet (fail)
        go_wp2
        go_ret
        exact ⟨1, rfl, ex.out ▸ rfl, below_drewN (below_drewN hbel _) _⟩
    · have e := cmpB_end (a := a.data.toList) (b := b.data.toList) (k := k) (by simpa using hk) (by simpa using hk') (by simp; omega)
      have ex : Hid (sgn ((a.size : Int) - b.size) = x) := hid (by have := e.symm.trans HK.out; simpa using this)
      clear e HK
      by_cases hA : k < a.size
      · have d1 : decide ((k : Int) < a.size) = true := by simpa using hA
        have d2 : decide ((k : Int) < b.size) = false := by simp; omega
        go_wp2
        go_ret
        exact ⟨_, rfl, ex.out, hbel⟩
      · have d1 : decide ((k : Int) < a.size) = false := by simp; omega
        go_wp2
        go_ret
        exact ⟨_, rfl, ex.out, hbel⟩

theorem sgn_lt {r : Int} (h : sgn r = -1) : r < 0 := by
  unfold sgn at h
  by_cases h1 : r < 0
  · exact h1
  · rw [if_neg h1] at h
    by_cases h2 : 0 < r
    · rw [if_pos h2] at h; omega
    · rw [if_neg h2] at h; omega
theorem sgn_gt {r : Int} (h : sgn r = 1) : 0 < r := by
  unfold sgn at h
  by_cases h1 : r < 0
  · rw [if_pos h1] at h; omega
  · rw [if_neg h1] at h
    by_cases h2 : 0 < r
    · exact h2
    · rw [if_neg h2] at h; omega
theorem sgn_eq {r : Int} (h : sgn r = 0) : r = 0 := by
  unfold sgn at h
  by_cases h1 : r < 0
  · rw [if_pos h1] at h; omega
  · rw [if_neg h1] at h
    by_cases h2 : 0 < r
    · rw [if_pos h2] at h; omega
    · omega

set_option maxHeartbeats 1000000 in
theorem refV_cmp (a b : V) (w : World) (ha : a.s.size ≤ 9223372036854775807) (hb : b.s.size ≤ 9223372036854775807) {x : Int} (hx : V.cmp a b = x) :
    Calls Tryd.prog 36 #[.agg #[.int .i64 a.k, .int .i64 a.n, .string a.s], .agg #[.int .i64 b.k, .int .i64 b.n, .string b.s]] w fun e w' => e = .returned (.int .i64 x) ∧ Below w.heap.size w w' := by
  obtain ⟨k, n, s⟩ := a
  obtain ⟨k', n', s'⟩ := b
  have hb2 := below_two w (.cells #[.int .i64 k, .int .i64 n, .string s] 59) (.cells #[.int .i64 k', .int .i64 n', .string s'] 59)
  by_cases h1 : k = k'
  · by_cases h2 : n = n'
    · have H := hid ((V.cmp_s h1 h2).symm.trans hx)
      clear hx
      subst h1 h2
      have hr := compareBytes_range s.data.toList s'.data.toList
      have h3 : x = -1 ∨ x = 0 ∨ x = 1 := by rw [H.out] at hr; omega
      have hc := fun W => hid (ref_compare s s' W ha hb H.out)
      rcases h3 with rfl | rfl | rfl
      · go_enter Tryd.func36, Tryd.ntmps36
        go_wp2_with fail
        refine ((hc _).out).mono ?_
        rintro e w1 ⟨r, rfl, hs, hb1⟩
        have hr1 := sgn_lt hs
        clear hs
        go_wp2
        go_ret
        exact ⟨rfl, hb2.trans (hb1.mono hb2.size)⟩
      · go_enter Tryd.func36, Tryd.ntmps36
        go_wp2_with fail
        refine ((hc _).out).mono ?_
        rintro e w1 ⟨r, rfl, hs, hb1⟩
        obtain rfl := sgn_eq hs
        clear hs
        go_wp2
        go_ret
        exact ⟨rfl, hb2.trans (hb1.mono hb2.size)⟩
      · go_enter Tryd.func36, Tryd.ntmps36
        go_wp2_with fail
        refine ((hc _).out).mono ?_
        rintro e w1 ⟨r, rfl, hs, hb1⟩
        have hr1 := sgn_gt hs
        have hr2 : ¬ r < 0 := by omega
        clear hs
        go_wp2
        go_ret
        exact ⟨rfl, hb2.trans (hb1.mono hb2.size)⟩
    · have H := (V.cmp_n h1 h2).symm.trans hx
      clear hx
      have h2' : (n != n') = true := by simpa using h2
      subst h1
      by_cases h3 : n < n'
      · have H2 := hid ((cmpInt_lt h3).symm.trans H)
        clear H h2
        go_enter Tryd.func36, Tryd.ntmps36
        go_wp2
        go_ret
        exact ⟨ret_i H2.out, hb2⟩
      · have H2 := hid ((cmpInt_gt (show n' < n by omega)).symm.trans H)
        clear H h2
        go_enter Tryd.func36, Tryd.ntmps36
        go_wp2
        go_ret
        exact ⟨ret_i H2.out, hb2⟩
  · have H := (V.cmp_k h1).symm.trans hx
    clear hx
    have h1' : (k != k') = true := by simpa using h1
    by_cases h3 : k < k'
    · have H2 := hid ((cmpInt_lt h3).symm.trans H)
      clear H h1
      go_enter Tryd.func36, Tryd.ntmps36
      go_wp2
      go_ret
      exact ⟨ret_i H2.out, hb2⟩
    · have H2 := hid ((cmpInt_gt (show k' < k by omega)).symm.trans H)
      clear H h1
      go_enter Tryd.func36, Tryd.ntmps36
      go_wp2
      go_ret
      exact ⟨ret_i H2.out, hb2⟩

/-- Every string is of a length that an int can bear. -/
def StrOk (r : List V) : Prop := ∀ v ∈ r, v.s.size ≤ 9223372036854775807

set_option maxRecDepth 100000 in
set_option maxHeartbeats 1000000 in
theorem refRow_cmp (A A' D : Option Addr) (c c' c'' : Nat) (r r' : List V) (d : List Bool) (w : World) {x : Int} (hx : rowCmp d r r' = x) (hr : RowAt w A r) (hr' : RowAt w A' r') (hd : BoolsAt w D d)
    (hl : r.length ≤ 100000) (hl' : r'.length ≤ 100000) (hl'' : d.length ≤ 100000) (so : StrOk r) (so' : StrOk r') :
    Calls Tryd.prog 27 #[.slice A r.length c, .slice A' r'.length c', .slice D d.length c''] w fun e w' => e = .returned (.int .i64 x) ∧ Below w.heap.size w w' := by
  have HX := hid hx
  clear hx
  go_enter Tryd.func27, Tryd.ntmps27
  go_wp2
  go_loopw [7] (fun i wr => ∃ k : Nat, k ≤ r.length ∧ k ≤ r'.length ∧ i = .int .i64 k ∧ Below w.heap.size w wr ∧ Hid (rowCmp (d.drop k) (r.drop k) (r'.drop k) = x)) (fun i _ => r.length - (intOf i).toNat)
  case atStart => exact ⟨0, by omega, by omega, rfl, Below.refl _ _, HX⟩
  case round =>
    obtain ⟨k, hk, hk', rfl, hbel, hinv⟩ := hrel
    clear HX
    by_cases hlt : k < r.length ∧ k < r'.length
    · obtain ⟨h1, h2⟩ := hlt
      have q1 : decide ((k : Int) < r.length) = true := by simpa using h1
      have q2 : decide ((k : Int) < r'.length) = true := by simpa using h2
      have q3 : decide (k < r.length) = true := by simpa using h1
      have q4 : decide (k < r'.length) = true := by simpa using h2
      obtain ⟨b, o, rfl, hcell⟩ := hr (by omega)
      obtain ⟨b', o', rfl, hcell'⟩ := hr' (by omega)
      obtain ⟨c0, c1, c2⟩ := hcell k h1
      obtain ⟨d0, d1, d2⟩ := hcell' k h2
      rw [← hbel.cell (cell_lt c0)] at c0
      rw [← hbel.cell (cell_lt c1)] at c1
      rw [← hbel.cell (cell_lt c2)] at c2
      rw [← hbel.cell (cell_lt d0)] at d0
      rw [← hbel.cell (cell_lt d1)] at d1
      rw [← hbel.cell (cell_lt d2)] at d2
      clear hcell hcell'
      have hst := fun e => rowCmp_step (d := d) h1 h2 e
      have hsp := fun e => rowCmp_stop (d := d) h1 h2 e
      have hrg := V.cmp_range r[k] r'[k]
      have s1 := so r[k] (List.getElem_mem h1)
      have s2 := so' r'[k] (List.getElem_mem h2)
      generalize r[k] = v at *
      generalize r'[k] = v' at *
      obtain ⟨y, hy⟩ : ∃ y, V.cmp v v' = y := ⟨_, rfl⟩
      rw [hy] at hst hsp hrg
      obtain ⟨hy1, hy2⟩ := hrg
      have Hst := hid hst
      have Hsp := hid hsp
      clear hst hsp hr hr' so so'
      have hvc := fun W => hid (refV_cmp v v' W s1 s2 hy)
      clear hy s1 s2
      go_wp2
      go_still_tail 8, (by kernel_rfl)
      change wpList _ _ _ _ _ wr.drew
      by_cases hy0 : y = 0
      · have e := Hst.out hy0
        subst hy0
        have Hi : Hid (rowCmp (d.drop (k + 1)) (r.drop (k + 1)) (r'.drop (k + 1)) = x) := hid (e.symm.trans hinv.out)
        clear e Hst Hsp hinv
        go_wp2_with (go_at_call 36; refine ((hvc _).out).mono ?_; rintro e w1 ⟨rfl, hb1⟩)
        go_roundw
        case rel => exact ⟨k + 1, by omega, by omega, by go_num, hbel.drew.trans (hb1.mono hbel.size), Hi⟩
        case measure => simp [intOf]; omega
      · have hy0' : (y != 0) = true := by simpa using hy0
        have e := Hsp.out hy0
        clear Hst Hsp hy0
        have e2 : Hid ((if d.getD k false then -y else y) = x) := hid (e.symm.trans hinv.out)
        clear e hinv
        by_cases hd1 : k < d.length
        · obtain ⟨bd, od, rfl, hdc⟩ := hd (by omega)
          have f0 := hdc k hd1
          rw [← hbel.cell (cell_lt f0)] at f0
          clear hdc hd
          have hgd : d.getD k false = d[k] := by simp [List.getD, hd1]
          rw [hgd] at e2
          generalize d[k] = q at *
          cases q
          · have e3 : Hid (y = x) := by simpa using e2
            clear e2
            go_wp2_with (go_at_call 36; refine ((hvc _).out).mono ?_; rintro e w1 ⟨rfl, hb1⟩; have f1 := (hb1.cell (p := ⟨bd, od + k, none⟩) (cell_lt f0)).trans f0)
            go_ret
            exact ⟨ret_i e3.out, hbel.drew.trans (hb1.mono hbel.size)⟩
          · have e3 : Hid (-y = x) := by simpa using e2
            clear e2
            go_wp2_with (go_at_call 36; refine ((hvc _).out).mono ?_; rintro e w1 ⟨rfl, hb1⟩; have f1 := (hb1.cell (p := ⟨bd, od + k, none⟩) (cell_lt f0)).trans f0)
            go_ret
            exact ⟨ret_i (by rw [← e3.out]), hbel.drew.trans (hb1.mono hbel.size)⟩
        · have hgd : d.getD k false = false := by simp [List.getD, show ¬ k < d.length from hd1]
          rw [hgd] at e2
          have e3 : Hid (y = x) := by simpa using e2
          clear e2 hgd
          go_wp2_with (go_at_call 36; refine ((hvc _).out).mono ?_; rintro e w1 ⟨rfl, hb1⟩)
          go_ret
          exact ⟨ret_i e3.out, hbel.drew.trans (hb1.mono hbel.size)⟩
    · have e := rowCmp_end (d := d) hk hk' (by omega)
      have e2 : Hid ((if r.length < r'.length then (-1 : Int) else if r'.length < r.length then 1 else 0) = x) := hid (e.symm.trans hinv.out)
      clear e hinv
      by_cases hA : r.length < r'.length
      · have e3 : Hid (-1 = x) := hid (by have := e2.out; rwa [if_pos hA] at this)
        have q1 : decide ((k : Int) < r.length) = false := by simp; omega
        have q2 : decide (k < r.length) = false := by simp; omega
        clear e2
        go_wp2
        go_ret
        exact ⟨ret_i e3.out, hbel⟩
      · by_cases hB : r'.length < r.length
        · have e3 : Hid (1 = x) := hid (by have := e2.out; rwa [if_neg hA, if_pos hB] at this)
          have q1 : decide ((k : Int) < r.length) = true := by simp; omega
          have q2 : decide (k < r.length) = true := by simp; omega
          have q3 : decide ((k : Int) < r'.length) = false := by simp; omega
          have q4 : decide (k < r'.length) = false := by simp; omega
          clear e2
          go_wp2
          go_ret
          exact ⟨ret_i e3.out, hbel⟩
        · have e3 : Hid (0 = x) := hid (by have := e2.out; rwa [if_neg hA, if_neg hB] at this)
          have q1 : decide ((k : Int) < r.length) = false := by simp; omega
          have q2 : decide (k < r.length) = false := by simp; omega
          clear e2
          go_wp2
          go_ret
          exact ⟨ret_i e3.out, hbel⟩
end Go.Proofs.YtaghaigckgckpaaDoor
