/-
  WALKS: the document of layer 19: Index, Name, bound, Vars, Valid, atom, rule, Check.
-/
import Derived.Test.YtgeapgbebbapmaaDoorAst9
import Derived.Test.YtgeapgbebbapmaaDoorAst11
import Derived.Test.YtgeapgbebbapmaaDoorCoh
import Derived.Laws.AppendOwnNone
import Derived.StillTailTactics
import Derived.Test.YtgeapgbebbapmaaDoorAst12
namespace Go.Proofs.YtgeapgbebbapmaaDoor
open Go.RowKit

/-! ### Rf1 -/

/-- Where a string stands first, or -1. -/
def idxL : List Str → Str → Int
  | [], _ => -1
  | x :: l, s => if x = s then 0 else if idxL l s < 0 then -1 else idxL l s + 1
theorem idxL_in : ∀ (l : List Str) (s : Str), (0 ≤ idxL l s ↔ s ∈ l) ∧ (idxL l s < 0 → idxL l s = -1) ∧ idxL l s < l.length
  | [], s => by simp [idxL]
  | x :: l, s => by
    obtain ⟨h1, h2, h3⟩ := idxL_in l s
    unfold idxL
    by_cases h : x = s
    · rw [if_pos h]; simp [h]
    · rw [if_neg h]
      have hne : s ≠ x := fun e => h e.symm
      by_cases h0 : idxL l s < 0
      · rw [if_pos h0]
        have : s ∉ l := fun e => absurd (h1.2 e) (by omega)
        simp [this, hne]
        omega
      · rw [if_neg h0]
        have : s ∈ l := h1.1 (by omega)
        simp only [List.mem_cons, this, or_true, iff_true, List.length_cons]
        refine ⟨by omega, by omega, by omega⟩
theorem idxL_at : ∀ (l : List Str) (s : Str) (k : Nat) (hk : k < l.length), l[k] = s → (∀ j (hj : j < k), l[j] ≠ s) → idxL l s = k
  | [], _, _, hk, _, _ => absurd hk (by simp)
  | x :: l, s, 0, _, h, _ => by
    have h : x = s := h
    unfold idxL; rw [if_pos h]; rfl
  | x :: l, s, k + 1, hk, h, hb => by
    have h0 : x ≠ s := hb 0 (by omega)
    have ih := idxL_at l s k (by simpa using hk) (by simpa using h) fun j hj => by
      have := hb (j + 1) (by omega)
      simpa using this
    unfold idxL
    rw [if_neg h0, ih, if_neg (by omega)]
    rfl
theorem idxL_none {l : List Str} {s : Str} (h : ∀ j (hj : j < l.length), l[j] ≠ s) : idxL l s = -1 := by
  refine (idxL_in l s).2.1 ?_
  apply Classical.byContradiction
  intro h2
  obtain ⟨j, hj, e⟩ := List.mem_iff_getElem.1 ((idxL_in l s).1.1 (by omega))
  exact h j hj e
theorem NmsAt.take {w : World} {A : Option Addr} {l : List Str} (h : NmsAt w A l) (n : Nat) : NmsAt w A (l.take n) := fun hp => by
  simp only [List.length_take] at hp
  obtain ⟨b, o, e, hc⟩ := h (by omega)
  refine ⟨b, o, e, fun i hi => ?_⟩
  simp only [List.length_take] at hi
  have := hc i (by omega)
  rw [List.getElem_take]
  exact this

set_option maxRecDepth 100000 in
set_option maxHeartbeats 2000000 in
theorem ref_index (A : Option Addr) (c : Nat) (l : List Str) (X : ByteArray) (w : World) (hl : NmsAt w A l) (hm : l.length ≤ 9223372036854775807) {x : Int} (hx : idxL l X.data.toList = x) :
    Calls Tryd.prog 24 #[.slice A l.length c, .string X] w fun e w' => e = .returned (.int .i64 x) ∧ w = w' := by
  have HX := hid hx
  have HL := hid hl
  clear hx hl
  go_enter Tryd.func24, Tryd.ntmps24
  go_wp2
  go_loop [5] (fun i => ∃ k : Nat, k ≤ l.length ∧ i = .int .i64 k ∧ Hid (∀ j (hj : j < k) (hj2 : j < l.length), l[j] ≠ X.data.toList)) (fun i => l.length - (intOf i).toNat)
  case atStart => exact ⟨0, by omega, rfl, hid (fun j hj => absurd hj (by omega))⟩
  case round =>
    obtain ⟨k, hk, rfl, HK⟩ := hrel
    by_cases hlt : k < l.length
    · obtain ⟨b, o, rfl, hc⟩ := HL.out (by omega)
      have c0 := hc k hlt
      obtain ⟨Z, hZ, hZd⟩ : ∃ Y : ByteArray, (⟨l[k].toArray⟩ : ByteArray) = Y ∧ Y.data.toList = l[k] := ⟨_, rfl, rfl⟩
      rw [hZ] at c0
      by_cases he : l[k] = X.data.toList
      · have hb : (Z.toList == X.toList) = true := by rw [eqS (Lib.toList_data Z) (Lib.toList_data X), hZd]; exact decide_eq_true he
        have hxx : (k : Int) = x := by rw [← HX.out]; exact (idxL_at l _ k hlt he fun j hj => HK.out j hj (by omega)).symm
        have HXX := hid hxx
        clear hc hZ hZd he hxx HK HX
        go_wp2
        go_ret
        exact ⟨ret_i HXX.out, rfl⟩
      · have hb : (Z.toList == X.toList) = false := by rw [eqS (Lib.toList_data Z) (Lib.toList_data X), hZd]; exact decide_eq_false he
        have HN : Hid (∀ j (hj : j < k + 1) (hj2 : j < l.length), l[j] ≠ X.data.toList) := hid fun j hj hj2 => by
          by_cases e : j = k
          · subst e; exact he
          · exact HK.out j (by omega) hj2
        clear hc hZ hZd he HK
        go_wp2
        go_round
        case rel => exact ⟨k + 1, by omega, by go_num, HN⟩
        case measure => simp [intOf]; omega
    · have hxx : (-1 : Int) = x := by rw [← HX.out]; exact (idxL_none fun j hj => HK.out j (by omega) hj).symm
      have HXX := hid hxx
      clear hxx HK HX
      go_wp2
      go_ret
      exact ⟨ret_i HXX.out, rfl⟩

def kwCells19 : Array Value := #[.string ⟨#[99, 111, 117, 110, 116]⟩, .string ⟨#[100, 101, 115, 99]⟩, .string ⟨#[109, 97, 120]⟩, .string ⟨#[109, 105, 110]⟩, .string ⟨#[110, 111, 116]⟩, .string ⟨#[111, 114, 100, 101, 114]⟩, .string ⟨#[115, 117, 109]⟩]
theorem kw_at19 (w : World) : NmsAt (w.alloc (.cells kwCells19 9)) (some ⟨w.heap.size, 0, none⟩) keyQ := fun _ => ⟨_, _, rfl, fun i hi => by
  have hn := heap_alloc_new w (.cells kwCells19 9)
  rw [Lib.cell_of_heap hn]
  have hi7 : i < 7 := hi
  match i, hi7 with
  | 0, _ => rfl
  | 1, _ => rfl
  | 2, _ => rfl
  | 3, _ => rfl
  | 4, _ => rfl
  | 5, _ => rfl
  | 6, _ => rfl⟩

set_option maxRecDepth 100000 in
set_option maxHeartbeats 4000000 in
theorem ref_name (s : ByteArray) (w : World) {x : Bool} (hx : nameB s.data.toList = x) :
    Calls Tryd.prog 31 #[.string s] w fun e w' => e = .returned (.bool x) ∧ Below w.heap.size w w' := by
  have hll : s.data.toList.length = s.size := by simp
  unfold nameB at hx
  rw [catB_from, hll] at hx
  by_cases h0 : 0 < s.size
  · have he : s.toList.isEmpty = false := by
      rw [Lib.toList_data]
      cases hd : s.data.toList with
      | nil => rw [hd] at hll; simp at hll; omega
      | cons a l => rfl
    by_cases h16 : s.size ≤ 16
    · obtain ⟨ix, hix⟩ : ∃ i, idxL keyQ s.data.toList = i := ⟨_, rfl⟩
      have HI := fun W h => hid (ref_index (some ⟨w.heap.size, 0, none⟩) 7 keyQ s W h (by decide) hix)
      have hkw := kw_at19 w
      have HKW := hid hkw
      have hbw := below_one w (.cells kwCells19 9)
      have HBW := hid hbw
      unfold kwCells19 at HKW HBW
      have hcon : keyQ.contains s.data.toList = decide (0 ≤ ix) := by
        rw [← hix]
        by_cases h : s.data.toList ∈ keyQ
        · rw [decide_eq_true ((idxL_in _ _).1.2 h)]; simpa using h
        · rw [decide_eq_false (fun e => h ((idxL_in _ _).1.1 e))]; simpa using h
      rw [hcon] at hx
      clear hix hkw hbw hcon
      by_cases hk : 0 ≤ ix
      · have hx : false = x := by rw [← hx, decide_eq_true hk]; rfl
        subst hx
        clear hll
        go_enter Tryd.func31, Tryd.ntmps31
        go_wp2_with fail
        refine (HI _ HKW.out).out.mono ?_
        rintro e w1 ⟨rfl, rfl⟩
        clear HI HKW
        go_wp2
        go_ret
        exact ⟨rfl, HBW.out⟩
      · have HX : Hid (catFrom 0 (s.data.toList.drop 0) = x) := hid (by rw [← hx, decide_eq_false hk]; simp [h0, h16])
        clear hx
        go_enter Tryd.func31, Tryd.ntmps31
        go_wp2_with fail
        refine (HI _ HKW.out).out.mono ?_
        rintro e w1 ⟨rfl, rfl⟩
        clear HI HKW
        go_wp2
        generalize (w.alloc (.cells #[.string ⟨#[99, 111, 117, 110, 116]⟩, .string ⟨#[100, 101, 115, 99]⟩, .string ⟨#[109, 97, 120]⟩, .string ⟨#[109, 105, 110]⟩, .string ⟨#[110, 111, 116]⟩, .string ⟨#[111, 114, 100, 101, 114]⟩, .string ⟨#[115, 117, 109]⟩] 9)) = w1 at *
        go_loopw [3] (fun i wr => ∃ k : Nat, k ≤ s.size ∧ i = .int .i64 k ∧ Hid (catFrom k (s.data.toList.drop k) = x) ∧ wr = w1) (fun i _ => s.size - (intOf i).toNat)
        case atStart => exact ⟨0, by omega, rfl, HX, rfl⟩
        case round =>
          obtain ⟨k, hk, rfl, HK, rfl⟩ := hrel
          clear HX
          by_cases hlt : k < s.size
          · have hlt' : k < s.data.toList.length := by simpa using hlt
            have hget : s.data.toList[k] = s[k] := by rw [Array.getElem_toList]; rfl
            have hon := fun h => catFrom_on hlt' h
            have hbad := fun h => catFrom_bad hlt' h
            rw [hget] at hon hbad
            have hb := s[k].toNat_lt
            rcases okAt_ways k s[k] with ⟨h, h1, h2⟩ | ⟨h, h1, h2⟩ | ⟨h, h1, h2⟩ | ⟨h, h1, h2, h3⟩ | ⟨h, h1, h2⟩ | ⟨h, h1, h3, h2⟩
            · have HN : Hid (catFrom (k + 1) (s.data.toList.drop (k + 1)) = x) := hid ((hon h).symm.trans HK.out)
              clear hon hbad h HK hget
              go_wp2
              go_roundw
              case rel => exact ⟨k + 1, by omega, by go_num, HN, trivial⟩
              case measure => simp [intOf]; omega
            · have HN : Hid (catFrom (k + 1) (s.data.toList.drop (k + 1)) = x) := hid ((hon h).symm.trans HK.out)
              have h97 : ¬ 97 ≤ s[k].toNat := by omega
              clear hon hbad h HK hget
              go_wp2
              go_roundw
              case rel => exact ⟨k + 1, by omega, by go_num, HN, trivial⟩
              case measure => simp [intOf]; omega
            · have HN : Hid (catFrom (k + 1) (s.data.toList.drop (k + 1)) = x) := hid ((hon h).symm.trans HK.out)
              have b95 : ((s[k].toNat : Int) != 95) = false := by rw [bne_eq_false_iff_eq]; omega
              have bk : ((k : Int) == 0) = false := by rw [beq_eq_false_iff_ne]; omega
              have h5 : 90 < s[k].toNat := by omega
              have h6 : s[k].toNat < 97 := by omega
              have d90 : decide ((s[k].toNat : Int) ≤ 90) = false := decide_eq_false (by omega)
              clear hon hbad h HK hget h2
              go_wp2
              go_roundw
              case rel => exact ⟨k + 1, by omega, by go_num, HN, trivial⟩
              case measure => simp [intOf]; omega
            · have HN : Hid (catFrom (k + 1) (s.data.toList.drop (k + 1)) = x) := hid ((hon h).symm.trans HK.out)
              have b95 : ((s[k].toNat : Int) != 95) = true := by rw [bne_iff_ne]; omega
              have bk : ((k : Int) == 0) = false := by rw [beq_eq_false_iff_ne]; omega
              clear hon hbad h HK hget
              go_wp2
              go_roundw
              case rel => exact ⟨k + 1, by omega, by go_num, HN, trivial⟩
              case measure => simp [intOf]; omega
            · have hx : false = x := (hbad h).symm.trans HK.out
              subst hx
              have bk : ((k : Int) == 0) = true := by rw [beq_iff_eq]; omega
              clear hon hbad h HK hget h1
              rcases h2 with h2 | ⟨h2, h4⟩ | h2
              all_goals
                try (have d90 : decide ((s[k].toNat : Int) ≤ 90) = false := decide_eq_false (by omega))
                try (have d122 : decide ((s[k].toNat : Int) ≤ 122) = false := decide_eq_false (by omega))
                go_wp2
                go_ret
                exact ⟨rfl, HBW.out⟩
            · have hx : false = x := (hbad h).symm.trans HK.out
              subst hx
              have b95 : ((s[k].toNat : Int) != 95) = true := by rw [bne_iff_ne]; omega
              have bk : ((k : Int) == 0) = false := by rw [beq_eq_false_iff_ne]; omega
              clear hon hbad h HK hget h3
              rcases h2 with h2 | ⟨h2, h4⟩ | ⟨h2, h4⟩ | h2
              all_goals
                try (have d90 : decide ((s[k].toNat : Int) ≤ 90) = false := decide_eq_false (by omega))
                try (have d122 : decide ((s[k].toNat : Int) ≤ 122) = false := decide_eq_false (by omega))
                go_wp2
                go_ret
                exact ⟨rfl, HBW.out⟩
          · have hx : true = x := (catFrom_end (by simpa using hlt)).symm.trans HK.out
            subst hx
            clear HK
            go_wp2
            go_ret
            exact ⟨rfl, HBW.out⟩
    · have hx : false = x := by rw [← hx]; simp [h16]
      subst hx
      clear hll
      go_enter Tryd.func31, Tryd.ntmps31
      go_wp2
      go_ret
      exact ⟨rfl, Below.refl _ _⟩
  · have he : s.toList.isEmpty = true := by
      rw [Lib.toList_data]
      have : s.data.toList = [] := List.eq_nil_of_length_eq_zero (by rw [hll]; omega)
      rw [this]; rfl
    have hx : false = x := by rw [← hx]; simp [h0]
    subst hx
    clear hll
    go_enter Tryd.func31, Tryd.ntmps31
    go_wp2
    go_ret
    exact ⟨rfl, Below.refl _ _⟩

/-! ### Rf2 -/

theorem any_take_succ {α : Type} (p : α → Bool) (l : List α) (k : Nat) (h : k < l.length) : (l.take (k + 1)).any p = ((l.take k).any p || p l[k]) := by
  rw [List.take_succ_eq_append_getElem h, List.any_append]; simp
theorem any_hit {α : Type} (p : α → Bool) (l : List α) (k : Nat) (h : k < l.length) (hp : p l[k] = true) : l.any p = true :=
  List.any_eq_true.2 ⟨_, List.getElem_mem h, hp⟩
theorem any_all {α : Type} {p : α → Bool} {l : List α} {k : Nat} (h : ¬ k < l.length) (hp : (l.take k).any p = false) : l.any p = false := by
  rwa [List.take_of_length_le (by omega)] at hp
def bndA (v : Str) (a : Atm) : Bool := !a.neg && a.ts.any fun t => t.v == v
theorem boundB_eq (r : Rul) (v : Str) : boundB r v = r.atoms.any (bndA v) := rfl

set_option maxRecDepth 100000 in
set_option maxHeartbeats 4000000 in
theorem ref_bound (r : Rul) (A C : Option Addr) (ca nc cc : Nat) (X : ByteArray) (w : World) (ha : AtmsAt w A r.atoms) (hm : r.atoms.length ≤ 9223372036854775807) {x : Bool} (hx : boundB r X.data.toList = x) :
    Calls Tryd.prog 60 #[.agg #[.slice A r.atoms.length ca, .slice C nc cc], .string X] w fun e w' => e = .returned (.bool x) ∧ Below w.heap.size w w' := by
  have HX := hid hx
  have hbel := below_one w (.cells #[.slice A r.atoms.length ca, .slice C nc cc] 49)
  have HA := hid ha
  have HBEL := hid hbel
  have hbox : (w.alloc (.cells #[.slice A r.atoms.length ca, .slice C nc cc] 49)).heap[w.heap.size]? = some (.cells #[.slice A r.atoms.length ca, .slice C nc cc] 49) := heap_alloc_new w _
  have d0 : (w.alloc (.cells #[.slice A r.atoms.length ca, .slice C nc cc] 49)).cell? ⟨w.heap.size, 0, none⟩ = some (.slice A r.atoms.length ca) := by rw [Lib.cell_of_heap hbox]; rfl
  clear hx ha hbel hbox
  go_enter Tryd.func60, Tryd.ntmps60
  go_wp2
  generalize (w.alloc (.cells #[.slice A r.atoms.length ca, .slice C nc cc] 49)) = wb at *
  go_loopw [5] (fun i wr => ∃ k : Nat, k ≤ r.atoms.length ∧ i = .int .i64 k ∧ Hid ((r.atoms.take k).any (bndA X.data.toList) = false) ∧ wr = wb) (fun i _ => r.atoms.length - (intOf i).toNat)
  case atStart => exact ⟨0, by omega, rfl, hid rfl, rfl⟩
  case round =>
    obtain ⟨k, hk, rfl, HK, rfl⟩ := hrel
    by_cases hlt : k < r.atoms.length
    · obtain ⟨ba, o, rfl, hc⟩ := HA.out (by omega)
      obtain ⟨T, cT, c0, c1, c2, hT, hcap, hmt⟩ := hc k hlt
      replace c0 := cell_keep HBEL.out c0
      replace c2 := cell_keep HBEL.out c2
      have HT := hid (hT.below HBEL.out)
      have hst := any_take_succ (bndA X.data.toList) r.atoms k hlt
      have hht := any_hit (bndA X.data.toList) r.atoms k hlt
      obtain ⟨⟨ng, rel, ts⟩, ea⟩ : ∃ a, r.atoms[k] = a := ⟨_, rfl⟩
      rw [ea] at c0 c2 HT hst hht hmt
      simp only at c0 c2 HT hmt
      have Hst := hid hst
      have Hht := hid hht
      obtain ⟨wo, rfl⟩ : ∃ wo : World, wo = wr := ⟨_, rfl⟩
      clear hc hT hst hht ea c1 hcap
      go_wp2
      go_loopw [6] (fun i wr => ∃ j : Nat, j ≤ ts.length ∧ i = .int .i64 j ∧ Hid (ng = true ∨ (ts.take j).any (fun t => t.v == X.data.toList) = false) ∧ wr = wo) (fun i _ => ts.length - (intOf i).toNat)
      case atStart => exact ⟨0, by omega, rfl, hid (.inr rfl), rfl⟩
      case round =>
        obtain ⟨j, hj, rfl, HJ, rfl⟩ := hrel
        by_cases hlt2 : j < ts.length
        · obtain ⟨bt, o2, rfl, hc2⟩ := HT.out (by omega)
          obtain ⟨e0, _, _, _⟩ := hc2 j hlt2
          have hs2 := any_take_succ (fun t : Trm => t.v == X.data.toList) ts j hlt2
          have hh2 := any_hit (fun t : Trm => t.v == X.data.toList) ts j hlt2
          obtain ⟨Z, hZ, hZd⟩ : ∃ Y : ByteArray, (⟨ts[j].v.toArray⟩ : ByteArray) = Y ∧ Y.data.toList = ts[j].v := ⟨_, rfl, rfl⟩
          rw [hZ] at e0
          have hzb : (Z.toList == X.toList) = (ts[j].v == X.data.toList) := by rw [eqS (Lib.toList_data Z) (Lib.toList_data X), hZd, beq_list]
          cases ng
          · cases hb : (ts[j].v == X.data.toList)
            · rw [hb] at hzb hs2
              have HN : Hid (false = true ∨ (ts.take (j + 1)).any (fun t => t.v == X.data.toList) = false) := hid (.inr (by
                rcases HJ.out with h | h
                · exact absurd h (by decide)
                · rw [hs2, h]; rfl))
              clear hs2 hh2 hb hZ hZd hc2 HJ
              go_wp2
              go_roundw
              case rel => exact ⟨j + 1, by omega, by go_num, (by first | exact HN | exact hid (Or.inl trivial)), trivial⟩
              case measure => simp [intOf]; omega
            · rw [hb] at hzb
              have hxx : true = x := by
                rw [← HX.out, boundB_eq, Hht.out]
                unfold bndA
                rw [hh2 hb]; rfl
              subst hxx
              clear hs2 hh2 hb hZ hZd hc2 HJ HX Hst Hht HK
              go_wp2
              go_ret
              exact ⟨rfl, HBEL.out⟩
          · have HN : Hid (true = true ∨ (ts.take (j + 1)).any (fun t => t.v == X.data.toList) = false) := hid (.inl rfl)
            clear hs2 hh2 hzb hZ hZd hc2 HJ
            go_wp2
            go_roundw
            case rel => exact ⟨j + 1, by omega, by go_num, (by first | exact HN | exact hid (Or.inl trivial)), trivial⟩
            case measure => simp [intOf]; omega
        · have HN : Hid ((r.atoms.take (k + 1)).any (bndA X.data.toList) = false) := hid (by
            rw [Hst.out, HK.out]
            unfold bndA
            rcases HJ.out with h | h
            · rw [h]; rfl
            · rw [any_all hlt2 h]; simp)
          clear HJ HK Hst Hht HX
          go_wp2
          go_roundw
          case rel => exact ⟨k + 1, by omega, by go_num, HN, trivial⟩
          case measure => simp [intOf]; omega
    · have hxx : false = x := by rw [← HX.out, boundB_eq]; exact (any_all hlt HK.out).symm
      subst hxx
      clear HK HX
      go_wp2
      go_ret
      exact ⟨rfl, HBEL.out⟩

/-! ### Rf3 -/

theorem rul_cells19 {w w' : World} {v0 v1 : Value} {t : TypeId} (h : Below (w.heap.size + 1) (w.alloc (.cells #[v0, v1] t)) w') :
    w'.cell? ⟨w.heap.size, 0, none⟩ = some v0 ∧ w'.cell? ⟨w.heap.size, 1, none⟩ = some v1 ∧ w.heap.size + 1 ≤ w'.heap.size ∧ Below w.heap.size w w' := by
  refine ⟨(h.cell (p := ⟨w.heap.size, 0, none⟩) (by simp)).trans (by simp), (h.cell (p := ⟨w.heap.size, 1, none⟩) (by simp)).trans (by simp), ?_, (below_one w _).trans (h.mono (by omega))⟩
  have := h.size
  simpa using this

theorem own_lower {w : World} {B B' : Nat} {e : TypeId} {z n : Nat} {v : Value} {xs : List Value} (h : w.ownsRow B e z v n xs) (hB : B' ≤ B) : w.ownsRow B' e z v n xs := by
  obtain ⟨hl, h0 | ⟨g, cap, cur, hv, hg, r⟩⟩ := h
  · exact ⟨hl, .inl h0⟩
  · exact ⟨hl, .inr ⟨g, cap, cur, hv, Nat.le_trans hB hg, r⟩⟩
/-- A result that is an own row of names. -/
def RetN (w : World) (x : List Str) (e : Ending) (w' : World) : Prop := ∃ A c, e = .returned (.slice A x.length c) ∧ w'.ownsRow w.heap.size 9 1 (.slice A x.length c) x.length (x.map nmV) ∧ Below w.heap.size w w'

set_option maxRecDepth 100000 in
set_option maxHeartbeats 8000000 in
theorem ref_vars19 (r : Rul) (A C : Option Addr) (ca cc : Nat) (w : World) (ha : AtmsAt w A r.atoms) (hcn : CndsAt w C r.conds) (hf : r.few) (hne : ∀ c ∈ r.conds, c.v ≠ []) {x : List Str} (hx : varsL r = x) :
    Calls Tryd.prog 23 #[.agg #[.slice A r.atoms.length ca, .slice C r.conds.length cc]] w (RetN w x) := by
  have HX : Hid (((r.atoms.drop 0).flatMap atomVs ++ r.conds.map (·.v)).foldl addN [] = x) := hid hx
  have HA := hid ha
  have HC := hid hcn
  have HF := hid hf.t
  have HNE := hid hne
  have hma := hf.a
  have hmc := hf.c
  obtain ⟨i0, hi, hz0, hz1, hz2⟩ := info_parts infoStr
  have HB0 : Hid (Below (w.heap.size + 1) (w.alloc (.cells #[.slice A r.atoms.length ca, .slice C r.conds.length cc] 49)) (w.alloc (.cells #[.slice A r.atoms.length ca, .slice C r.conds.length cc] 49))) := hid (Below.refl _ _)
  have HO0 : Hid ((w.alloc (.cells #[.slice A r.atoms.length ca, .slice C r.conds.length cc] 49)).ownsRow (w.heap.size + 1) 9 1 (.slice none 0 0) ([] : List Str).length (([] : List Str).map nmV)) := hid (World.ownsRow_nil _ _ _ _)
  clear hx ha hcn hf hne
  go_enter Tryd.func23, Tryd.ntmps23
  go_wp2
  go_loopw [4, 3] (fun i u wr => ∃ (k : Nat) (L : List Str) (AO : Option Addr) (cO : Nat), k ≤ r.atoms.length ∧ i = .int .i64 k ∧ u = .slice AO L.length cO ∧ L.length ≤ k * 6 ∧ Hid (wr.ownsRow (w.heap.size + 1) 9 1 (.slice AO L.length cO) L.length (L.map nmV)) ∧ Hid (((r.atoms.drop k).flatMap atomVs ++ r.conds.map (·.v)).foldl addN L = x) ∧ Hid (Below (w.heap.size + 1) (w.alloc (.cells #[.slice A r.atoms.length ca, .slice C r.conds.length cc] 49)) wr)) (fun i _ _ => r.atoms.length - (intOf i).toNat)
  case atStart => exact ⟨0, [], none, 0, by omega, rfl, rfl, by simp, HO0, HX, HB0⟩
  case round =>
    obtain ⟨k, L, AO, cO, hk, rfl, rfl, hL, HO, HK, HB⟩ := hrel
    clear HO0 HX HB0
    by_cases hlt : k < r.atoms.length
    · obtain ⟨ba, o, rfl, hc⟩ := HA.out (by omega)
      obtain ⟨T, cT, _, _, c2, hT, hcap, hmt⟩ := hc k hlt
      have h6 := HF.out _ (List.getElem_mem hlt)
      obtain ⟨⟨ng, rel, ts⟩, ea⟩ : ∃ a, r.atoms[k] = a := ⟨_, rfl⟩
      have HK2 := HK.out
      rw [vars_atom hlt ea] at HK2
      rw [ea] at c2 hT h6
      simp only at c2 hT h6 HK2
      have HT := hid hT
      have HC2 := hid c2
      have HK0 := hid HK2
      obtain ⟨d0, d1, dsz, dbel⟩ := rul_cells19 HB.out
      clear hc hT hcap hmt ea HK HK2 c2 d1
      go_wp2
      clear d0 dbel
      go_loopw [5, 3] (fun i u wr => ∃ (j : Nat) (L : List Str) (AO : Option Addr) (cO : Nat), j ≤ ts.length ∧ i = .int .i64 j ∧ u = .slice AO L.length cO ∧ L.length ≤ k * 6 + j ∧ Hid (wr.ownsRow (w.heap.size + 1) 9 1 (.slice AO L.length cO) L.length (L.map nmV)) ∧ Hid (((ts.drop j).map (·.v) ++ ((r.atoms.drop (k + 1)).flatMap atomVs ++ r.conds.map (·.v))).foldl addN L = x) ∧ Hid (Below (w.heap.size + 1) (w.alloc (.cells #[.slice (some ⟨ba, o, none⟩) r.atoms.length ca, .slice C r.conds.length cc] 49)) wr)) (fun i _ _ => ts.length - (intOf i).toNat)
      case atStart => exact ⟨0, L, AO, cO, by omega, rfl, rfl, by omega, HO, HK0, HB⟩
      case round =>
        clear HO HK0 HB dsz
        obtain ⟨j, L, AO, cO, hj, rfl, rfl, hL2, HO, HK, HB⟩ := hrel
        obtain ⟨d0, _, dsz, dbel⟩ := rul_cells19 HB.out
        have c2 := cell_keep dbel HC2.out
        by_cases hlt2 : j < ts.length
        · obtain ⟨bt, o2, rfl, hc2⟩ := HT.out (by omega)
          obtain ⟨e0, _, _, _⟩ := hc2 j hlt2
          replace e0 := cell_keep dbel e0
          obtain ⟨⟨v, cv⟩, et⟩ : ∃ t, ts[j] = t := ⟨_, rfl⟩
          have HK2 := hid ((vars_term hlt2 et _ L).symm.trans HK.out)
          rw [et] at e0
          simp only at e0
          obtain ⟨Z, hZ, hZd⟩ : ∃ Y : ByteArray, (⟨v.toArray⟩ : ByteArray) = Y ∧ Y.data.toList = v := ⟨_, rfl, rfl⟩
          rw [hZ] at e0
          have HZ := hid hZ
          have HZl : Hid (Z.toList = v) := hid (by rw [Lib.toList_data]; exact hZd)
          by_cases hv : v = []
          · have hze : Z.toList.isEmpty = true := by rw [HZl.out, hv]; rfl
            have HN : Hid (((ts.drop (j + 1)).map (·.v) ++ ((r.atoms.drop (k + 1)).flatMap atomVs ++ r.conds.map (·.v))).foldl addN L = x) := hid (by
              have := HK2.out
              unfold addN at this ⊢
              rw [if_pos (.inl hv)] at this
              exact this)
            clear hc2 hZ hZd et HK HK2 HZ HZl hv
            go_wp2
            go_roundw
            case rel => exact ⟨j + 1, L, AO, cO, by omega, by go_num, rfl, by omega, HO, HN, HB⟩
            case measure => simp [intOf]; omega
          · have hze : Z.toList.isEmpty = false := by
              rw [HZl.out]
              cases h : v with
              | nil => exact absurd h hv
              | cons _ _ => rfl
            obtain ⟨ix, hix⟩ : ∃ i, idxL L Z.data.toList = i := ⟨_, rfl⟩
            have hin := idxL_in L Z.data.toList
            rw [hix, hZd] at hin
            have CI := fun W h => hid (ref_index AO cO L Z W h (by omega) hix)
            obtain ⟨_, _, hu, hA, _⟩ := own_names HO.out
            injection hu with e1 _ e3
            subst e1 e3
            have HAO := hid hA
            by_cases hm : v ∈ L
            · have hix0 : 0 ≤ ix := hin.1.2 hm
              have HN : Hid (((ts.drop (j + 1)).map (·.v) ++ ((r.atoms.drop (k + 1)).flatMap atomVs ++ r.conds.map (·.v))).foldl addN L = x) := hid (by
                have h := HK2.out
                have e : addN L (⟨v, cv⟩ : Trm).v = L := by unfold addN; rw [if_pos (.inr hm)]
                rwa [e] at h)
              clear hc2 hZ hZd et HK HK2 HZ HZl hv hin hix hA hm
              go_wp2_with fail
              refine (CI _ HAO.out).out.mono ?_
              rintro e w1 ⟨rfl, rfl⟩
              clear CI HAO
              go_wp2
              go_roundw
              case rel => exact ⟨j + 1, L, AO, cO, by omega, by go_num, rfl, by omega, HO, HN, HB⟩
              case measure => simp [intOf]; omega
            · have hix0 : ix < 0 := by
                apply Classical.byContradiction
                intro h
                exact hm (hin.1.1 (by omega))
              have HN : Hid (((ts.drop (j + 1)).map (·.v) ++ ((r.atoms.drop (k + 1)).flatMap atomVs ++ r.conds.map (·.v))).foldl addN (L ++ [v]) = x) := hid (by
                have h := HK2.out
                have e : addN L (⟨v, cv⟩ : Trm).v = L ++ [v] := by unfold addN; rw [if_neg]; rintro (h | h); exact hv h; exact hm h
                rwa [e] at h)
              clear hc2 hZ hZd et HK HK2 HZl hv hin hix hA hm
              go_wp2_with fail
              refine (CI _ HAO.out).out.mono ?_
              rintro e w1 ⟨rfl, rfl⟩
              clear CI HAO
              go_wp2_with (at_builtin; refine wpList_append_new2 Tryd.underlying22 hi hz0 hz1 hz2 rfl (by decide) (by decide) rfl rfl rfl HO.out rfl (by simp) rfl rfl (by omega) (by omega) ?_; intro v3 w3 hown3 hg3; obtain ⟨g3, cap3, rfl⟩ := own_slice1 hown3)
              have HO3 : Hid (w3.ownsRow (w.heap.size + 1) 9 1 (.slice (some ⟨g3, 0, none⟩) (L.length + 1) cap3) (L ++ [v]).length ((L ++ [v]).map nmV)) := hid (by
                rw [List.length_append, List.map_append, List.map_singleton, show nmV v = .string Z by rw [← HZ.out]; rfl]
                exact hown3)
              have HB3 := hid (HB.out.trans (grown_below HO.out hg3 (by omega)))
              rw [show L.length + 1 = (L ++ [v]).length by simp] at *
              clear HO HB hown3 hg3
              go_roundw
              case rel => exact ⟨j + 1, L ++ [v], _, _, by omega, by go_num, by simp, by simp; omega, HO3, HN, HB3⟩
              case measure => simp [intOf]; omega
        · have HN := hid ((vars_term_end hlt2 _ L).symm.trans HK.out)
          clear HK
          go_wp2
          go_roundw
          case rel => exact ⟨k + 1, L, AO, cO, by omega, by go_num, rfl, by omega, HO, HN, HB⟩
          case measure => simp [intOf]; omega
    · have HK0 := hid ((vars_atom_end hlt r.conds L).symm.trans HK.out)
      obtain ⟨d0, d1, dsz, dbel⟩ := rul_cells19 HB.out
      clear HK
      have hL48 : L.length ≤ 48 := by omega
      go_wp2
      clear d0 d1 dbel
      go_loopw [7, 3] (fun i u wr => ∃ (j : Nat) (L : List Str) (AO : Option Addr) (cO : Nat), j ≤ r.conds.length ∧ i = .int .i64 j ∧ u = .slice AO L.length cO ∧ L.length ≤ 48 + j ∧ Hid (wr.ownsRow (w.heap.size + 1) 9 1 (.slice AO L.length cO) L.length (L.map nmV)) ∧ Hid (((r.conds.drop j).map (·.v)).foldl addN L = x) ∧ Hid (Below (w.heap.size + 1) (w.alloc (.cells #[.slice A r.atoms.length ca, .slice C r.conds.length cc] 49)) wr)) (fun i _ _ => r.conds.length - (intOf i).toNat)
      case atStart => exact ⟨0, L, AO, cO, by omega, rfl, rfl, by omega, HO, HK0, HB⟩
      case round =>
        clear HO HK0 HB dsz
        obtain ⟨j, L, AO, cO, hj, rfl, rfl, hL2, HO, HK, HB⟩ := hrel
        obtain ⟨d0, d1, dsz, dbel⟩ := rul_cells19 HB.out
        by_cases hlt2 : j < r.conds.length
        · obtain ⟨bt, o2, rfl, hc2⟩ := HC.out (by omega)
          obtain ⟨e0, _, _, _, _⟩ := hc2 j hlt2
          replace e0 := cell_keep dbel e0
          have hv := HNE.out _ (List.getElem_mem hlt2)
          obtain ⟨⟨v, op, cv⟩, et⟩ : ∃ t, r.conds[j] = t := ⟨_, rfl⟩
          have HK2 := hid ((vars_cond hlt2 et L).symm.trans HK.out)
          rw [et] at e0 hv
          simp only at e0 hv
          obtain ⟨Z, hZ, hZd⟩ : ∃ Y : ByteArray, (⟨v.toArray⟩ : ByteArray) = Y ∧ Y.data.toList = v := ⟨_, rfl, rfl⟩
          rw [hZ] at e0
          have HZ := hid hZ
          obtain ⟨ix, hix⟩ : ∃ i, idxL L Z.data.toList = i := ⟨_, rfl⟩
          have hin := idxL_in L Z.data.toList
          rw [hix, hZd] at hin
          have CI := fun W h => hid (ref_index AO cO L Z W h (by omega) hix)
          obtain ⟨_, _, hu, hA, _⟩ := own_names HO.out
          injection hu with e1 _ e3
          subst e1 e3
          have HAO := hid hA
          by_cases hm : v ∈ L
          · have hix0 : 0 ≤ ix := hin.1.2 hm
            have HN : Hid (((r.conds.drop (j + 1)).map (·.v)).foldl addN L = x) := hid (by
              have h := HK2.out
              have e : addN L (⟨v, op, cv⟩ : Cnd).v = L := by unfold addN; rw [if_pos (.inr hm)]
              rwa [e] at h)
            clear hc2 hZ hZd et HK HK2 HZ hv hin hix hA hm
            go_wp2_with fail
            refine (CI _ HAO.out).out.mono ?_
            rintro e w1 ⟨rfl, rfl⟩
            clear CI HAO
            go_wp2
            go_roundw
            case rel => exact ⟨j + 1, L, AO, cO, by omega, by go_num, rfl, by omega, HO, HN, HB⟩
            case measure => simp [intOf]; omega
          · have hix0 : ix < 0 := by
              apply Classical.byContradiction
              intro h
              exact hm (hin.1.1 (by omega))
            have HN : Hid (((r.conds.drop (j + 1)).map (·.v)).foldl addN (L ++ [v]) = x) := hid (by
              have h := HK2.out
              have e : addN L (⟨v, op, cv⟩ : Cnd).v = L ++ [v] := by unfold addN; rw [if_neg]; rintro (h | h); exact hv h; exact hm h
              rwa [e] at h)
            clear hc2 hZ hZd et HK HK2 hv hin hix hA hm
            go_wp2_with fail
            refine (CI _ HAO.out).out.mono ?_
            rintro e w1 ⟨rfl, rfl⟩
            clear CI HAO
            go_wp2_with (at_builtin; refine wpList_append_new2 Tryd.underlying22 hi hz0 hz1 hz2 rfl (by decide) (by decide) rfl rfl rfl HO.out rfl (by simp) rfl rfl (by omega) (by omega) ?_; intro v3 w3 hown3 hg3; obtain ⟨g3, cap3, rfl⟩ := own_slice1 hown3)
            have HO3 : Hid (w3.ownsRow (w.heap.size + 1) 9 1 (.slice (some ⟨g3, 0, none⟩) (L.length + 1) cap3) (L ++ [v]).length ((L ++ [v]).map nmV)) := hid (by
              rw [List.length_append, List.map_append, List.map_singleton, show nmV v = .string Z by rw [← HZ.out]; rfl]
              exact hown3)
            have HB3 := hid (HB.out.trans (grown_below HO.out hg3 (by omega)))
            rw [show L.length + 1 = (L ++ [v]).length by simp] at *
            clear HO HB hown3 hg3
            go_roundw
            case rel => exact ⟨j + 1, L ++ [v], _, _, by omega, by go_num, by simp, by simp; omega, HO3, HN, HB3⟩
            case measure => simp [intOf]; omega
        · have hN := (vars_cond_end hlt2 L).symm.trans HK.out
          subst hN
          have hbb := dbel
          have HO2 := hid (own_lower HO.out (show w.heap.size ≤ w.heap.size + 1 by omega))
          clear HK HO
          go_wp2
          go_ret
          exact ⟨_, _, rfl, HO2.out, hbb⟩

/-! ### Rf4 -/

set_option maxHeartbeats 400000 in
theorem ref_valid03 (v : V) (w : World) {x : Bool} (hx : v.valid = x) :
    Calls Tryd.prog 59 #[.agg #[.int .i64 v.k, .int .i64 v.n, .string v.s]] w fun e w' => e = .returned (.bool x) ∧ Below w.heap.size w w' := by
  obtain ⟨k, n, s⟩ := v
  have hb := below_one w (.cells #[.int .i64 k, .int .i64 n, .string s] 54)
  by_cases h1 : k = 1
  · have H : Hid (s.toList.isEmpty = x) := hid (by rw [← hx]; simp [V.valid, h1])
    clear hx
    subst h1
    cases hs : s.toList.isEmpty
    all_goals
      rw [hs] at H
      go_enter Tryd.func59, Tryd.ntmps59
      go_wp2
      go_ret
      exact ⟨ret_b H.out, hb⟩
  · have b1 : (k == 1) = false := by simpa using h1
    by_cases h2 : k = 2
    · by_cases h3 : n = 0
      · have H : Hid (decide (s.size ≤ 24) = x) := hid (by rw [← hx]; simp [V.valid, h2, h3])
        clear hx
        subst h2 h3
        go_enter Tryd.func59, Tryd.ntmps59
        go_wp2
        go_ret
        exact ⟨ret_b (by rw [← H.out]; simp; try omega), hb⟩
      · have b3 : (n == 0) = false := by simpa using h3
        have H : Hid (false = x) := hid (by rw [← hx]; simp [V.valid, h2, h3])
        clear hx
        subst h2
        go_enter Tryd.func59, Tryd.ntmps59
        go_wp2
        go_ret
        exact ⟨ret_b H.out, hb⟩
    · have b2 : (k == 2) = false := by simpa using h2
      have H : Hid (false = x) := hid (by rw [← hx]; simp [V.valid, h1, h2])
      clear hx h1 h2
      go_enter Tryd.func59, Tryd.ntmps59
      go_wp2
      go_ret
      exact ⟨ret_b H.out, hb⟩

section
variable {P : Program} {w : World}
theorem run_append_own_nil (base : Nat) (t ty e : TypeId) (i : TypeInfo) (size c : Nat) (ht : P.underlying t = some (.slice e)) (hi : P.info? e = some i)
    (v : Value) (n : Nat) (xs : List Value) (hown : w.ownsRow base e size v n xs) :
    (Builtin.append_ #[t, t] ty #[v, .slice none 0 c]).run P w = .ok v w := by
  rcases hown.2 with ⟨rfl, rfl⟩ | ⟨g, cap, cur, rfl, _, _, hnc, _⟩
  · simp [Builtin.append_, run_underlying ht, sizeOf, typeInfo, hi, Builtin.lenOf, Builtin.firstCells]
  · simp [Builtin.append_, run_underlying ht, sizeOf, typeInfo, hi, Builtin.lenOf, Builtin.firstCells, hnc, storeCells]
end
theorem wpList_append_own_nil {P : Program} {w : World} {ops : Array Oper} {rest : List Oper} {o : Oper} {a : Act} {Q : Exit → Act → World → Prop} (hgd : o.guard = none) (s x : Operand) (t : TypeId)
    (ho : o.op = .call { callee := .builtin .append, args := #[s, x], argTypes := #[t, t] })
    (base : Nat) (e : TypeId) (i : TypeInfo) (size c : Nat) (ht : P.underlying t = some (.slice e)) (hi : P.info? e = some i)
    (v : Value) (n : Nat) (xs : List Value) (hs : a.eval s = v) (hown : w.ownsRow base e size v n xs) (hx : a.eval x = .slice none 0 c)
    (h : wpList P ops Q rest (a.put o.dst v) w) : wpList P ops Q (o :: rest) a w := by
  refine wpList_plain hgd fun K hK => ?_
  have hrun := run_append_own_nil (P := P) (w := w) base t o.type e i size c ht hi v n xs hown
  unfold Oper.wp
  simp [execOp, ho, resolve, invoke, builtin, hs, hx, hrun, Result.andThen]
  exact hK _ _ h
/-- 'append(out, l...)': names from memory onto a row of the call's own. -/
theorem wpList_append_nms {w : World} {ops : Array Oper} {rest : List Oper} {o : Oper} {a : Act} {Q : Exit → Act → World → Prop} (hgd : o.guard = none) {s x : Operand}
    (ho : o.op = .call { callee := .builtin .append, args := #[s, x], argTypes := #[22, 22] }) {base : Nat} {v : Value} {n c : Nat} {A : Option Addr} {acc l : List Str}
    (hs : a.eval s = v) (hown : w.ownsRow base 9 1 v n (acc.map nmV)) (hx : a.eval x = .slice A l.length c) (h1 : NmsAt w A l) (hn : n + l.length ≤ 100000) (hb : base ≤ w.heap.size)
    (h : ∀ v' w', w'.ownsRow base 9 1 v' (n + l.length) ((acc ++ l).map nmV) → w.grownBy w' v.ownBlock → wpList Tryd.prog ops Q rest (a.put o.dst v') w') : wpList Tryd.prog ops Q (o :: rest) a w := by
  obtain ⟨i0, hi, hz0, hz1, hz2⟩ := info_parts infoStr
  have key : ∀ ad : Addr, A = some ad → (∀ j u, (l.map nmV)[j]? = some u → w.cell? (ad.add j) = some u) → wpList Tryd.prog ops Q (o :: rest) a w := by
    rintro ad rfl hc
    refine wpList_append_own _ hgd s x 22 ho base 9 i0 (.string ⟨#[]⟩) 1 16 Tryd.underlying22 hi hz0 hz1 hz2 rfl (by decide) v n (acc.map nmV) hs hown ad l.length c (l.map nmV) hx ?_ ?_ ?_ ?_ ?_ ?_ ?_
    · simp
    · exact hc
    · exact nm_one l
    · unfold maxLen; omega
    · omega
    · exact hb
    · intro v' w1 hown1 hg1 _
      exact h v' w1 (by rw [List.map_append]; exact hown1) hg1
  by_cases hl : l = []
  · subst hl
    cases A with
    | none =>
      refine wpList_append_own_nil hgd s x 22 ho base 9 i0 1 c Tryd.underlying22 hi v n (acc.map nmV) hs hown hx ?_
      exact h v w (by simpa using hown) ⟨rfl, rfl, rfl, Nat.le_refl _, fun _ _ _ => rfl⟩
    | some ad => exact key ad rfl fun j u hj => by simp at hj
  · obtain ⟨b, o2, rfl, _⟩ := id h1 (List.length_pos_iff.2 hl)
    exact key _ rfl (nm_cells h1)

/-- An atom's block keeps its cells. -/
theorem atm_cells19 {w w' : World} {v0 v1 v2 : Value} {t : TypeId} (h : Below (w.heap.size + 1) (w.alloc (.cells #[v0, v1, v2] t)) w') :
    w'.cell? ⟨w.heap.size, 1, none⟩ = some v1 ∧ w'.cell? ⟨w.heap.size, 2, none⟩ = some v2 ∧ w.heap.size + 1 ≤ w'.heap.size ∧ Below w.heap.size w w' := by
  refine ⟨(h.cell (p := ⟨w.heap.size, 1, none⟩) (by simp)).trans (by simp), (h.cell (p := ⟨w.heap.size, 2, none⟩) (by simp)).trans (by simp), ?_, (below_one w _).trans (h.mono (by omega))⟩
  have := h.size
  simpa using this

set_option maxRecDepth 100000 in
set_option maxHeartbeats 4000000 in
theorem ref_atom19 (a : Atm) (T : Option Addr) (c : Nat) (w : World) (hl : TrmsAt w T a.ts) (hm : a.ts.length ≤ 9223372036854775807) {x : Int} (hx : atomE a = x) :
    Calls Tryd.prog 58 #[.agg #[.bool a.neg, .string ⟨a.rel.toArray⟩, .slice T a.ts.length c]] w fun e w' => e = .returned (.int .i64 x) ∧ Below w.heap.size w w' := by
  obtain ⟨neg, rel, l⟩ := a
  unfold atomE at hx
  simp only at hx hl hm ⊢
  obtain ⟨Y, hY, hYd⟩ : ∃ Y : ByteArray, (⟨rel.toArray⟩ : ByteArray) = Y ∧ Y.data.toList = rel := ⟨_, rfl, rfl⟩
  obtain ⟨y, hy⟩ : ∃ y, nameB Y.data.toList = y := ⟨_, rfl⟩
  have H1 := fun W => hid (ref_name Y W hy)
  rw [hYd] at hy
  rw [hY]
  rw [hy] at hx
  have HL := hid hl
  have HB0 : Hid (Below (w.heap.size + 1) (w.alloc (.cells #[.bool neg, .string Y, .slice T l.length c] 60)) (w.alloc (.cells #[.bool neg, .string Y, .slice T l.length c] 60))) := hid (Below.refl _ _)
  clear hY hYd hy hl
  cases y
  · have hx : 7 = x := by simpa using hx
    subst hx
    go_enter Tryd.func58, Tryd.ntmps58
    go_wp2_with fail
    refine (H1 _).out.mono ?_
    rintro e w1 ⟨rfl, b1⟩
    have hb := (atm_cells19 (HB0.out.trans (b1.mono (by simp)))).2.2.2
    clear H1 b1
    go_wp2
    go_ret
    exact ⟨rfl, hb⟩
  · rw [if_neg (by simp)] at hx
    have HX0 := hid hx
    clear hx
    go_enter Tryd.func58, Tryd.ntmps58
    go_wp2_with fail
    refine (H1 _).out.mono ?_
    rintro e w1 ⟨rfl, b1⟩
    have HB1 := hid (HB0.out.trans (b1.mono (by simp)))
    clear H1 b1 HB0
    obtain ⟨q1, q2, hsz, hbel⟩ := atm_cells19 HB1.out
    by_cases h6 : 6 < l.length
    · have hx := HX0.out
      rw [if_pos h6] at hx
      subst hx
      clear HX0
      go_wp2
      go_ret
      exact ⟨rfl, hbel⟩
    · have HX : Hid (firstE termE (l.drop 0) = x) := hid (by have := HX0.out; rw [if_neg h6] at this; exact this)
      clear HX0
      go_wp2
      clear q1 q2 hsz hbel
      go_loopw [3] (fun i wr => ∃ k : Nat, k ≤ l.length ∧ i = .int .i64 k ∧ Hid (firstE termE (l.drop k) = x) ∧ Hid (Below (w.heap.size + 1) (w.alloc (.cells #[.bool neg, .string Y, .slice T l.length c] 60)) wr)) (fun i _ => l.length - (intOf i).toNat)
      case atStart => exact ⟨0, by omega, rfl, HX, HB1⟩
      case round =>
        obtain ⟨k, hk, rfl, HK, HB⟩ := hrel
        obtain ⟨q1, q2, hsz, hbel⟩ := atm_cells19 HB.out
        clear HX HB1
        by_cases hlt : k < l.length
        · obtain ⟨bb, o, rfl, hc⟩ := HL.out (by omega)
          obtain ⟨d0, d1, d2, d3⟩ := hc k hlt
          replace d0 := cell_keep hbel d0
          replace d1 := cell_keep hbel d1
          replace d2 := cell_keep hbel d2
          replace d3 := cell_keep hbel d3
          have hon := fun h => firstE_on (f := termE) hlt h
          have hat := fun h => firstE_at (f := termE) hlt h
          have hw := term_ways l[k]
          generalize l[k] = t at *
          obtain ⟨v, ⟨ck, cn, cs⟩⟩ := t
          simp only at *
          obtain ⟨Z, hZ, hZd⟩ : ∃ Y : ByteArray, (⟨v.toArray⟩ : ByteArray) = Y ∧ Y.data.toList = v := ⟨_, rfl, rfl⟩
          have hno := noS (show Z.toList = v by rw [Lib.toList_data]; exact hZd)
          rw [hZ] at d0
          have HBN := hid (HB.out.alloc (by omega) (.cells #[.string Z, .int .i64 ck, .int .i64 cn, .string cs] 56))
          have htb := heap_alloc_new wr (.cells #[.string Z, .int .i64 ck, .int .i64 cn, .string cs] 56)
          have HTB := hid htb
          obtain ⟨wo, rfl⟩ : ∃ wo : World, wo = wr := ⟨_, rfl⟩
          have HKo := hid HK.out
          clear HK hc HB htb
          rcases hw with ⟨h1, h2, h3⟩ | ⟨h1, h2, h3⟩ | ⟨h1, h2, h3⟩ | ⟨h1, h2, h4, h3⟩ | ⟨h1, h2, h4, h3⟩
          · have HN : Hid (firstE termE (l.drop (k + 1)) = x) := hid ((hon h3).symm.trans HKo.out)
            have hz : Z.toList.isEmpty = true := by rw [hno]; simpa using h1
            have H2 := fun W => hid (ref_valid03 ⟨ck, cn, cs⟩ W h2)
            clear hno hon hat HKo h1 h2 h3 hZ hZd
            go_wp2_with fail
            refine (H2 _).out.mono ?_
            rintro e w1 ⟨rfl, b1⟩
            have HB4 := hid (HBN.out.trans (b1.mono (by simp; omega)))
            clear H2 b1 HBN HTB
            go_wp2
            go_roundw
            case rel => exact ⟨k + 1, by omega, by go_num, HN, HB4⟩
            case measure => simp [intOf]; omega
          · have hx : 4 = x := h3.symm.trans ((hat (by rw [h3]; decide)).symm.trans HKo.out)
            subst hx
            have hz : Z.toList.isEmpty = true := by rw [hno]; simpa using h1
            have H2 := fun W => hid (ref_valid03 ⟨ck, cn, cs⟩ W h2)
            clear hno hon hat HKo h1 h2 h3 hZ hZd
            go_wp2_with fail
            refine (H2 _).out.mono ?_
            rintro e w1 ⟨rfl, b1⟩
            have hb4 := (atm_cells19 (HBN.out.trans (b1.mono (by simp; omega)))).2.2.2
            clear H2 b1 HBN HTB
            go_wp2
            go_ret
            exact ⟨rfl, hb4⟩
          · have hx : 7 = x := h3.symm.trans ((hat (by rw [h3]; decide)).symm.trans HKo.out)
            subst hx
            have hz : Z.toList.isEmpty = false := by rw [hno]; simpa using h1
            have H2 := fun W => hid (ref_name Z W (x := false) (by rw [hZd]; exact h2))
            clear hno hon hat HKo h1 h2 h3 hZ hZd
            go_wp2_with fail
            refine (H2 _).out.mono ?_
            rintro e w1 ⟨rfl, b1⟩
            have hb4 := (atm_cells19 (HBN.out.trans (b1.mono (by simp; omega)))).2.2.2
            clear H2 b1 HBN HTB
            go_wp2
            go_ret
            exact ⟨rfl, hb4⟩
          · have HN : Hid (firstE termE (l.drop (k + 1)) = x) := hid ((hon h3).symm.trans HKo.out)
            have hz : Z.toList.isEmpty = false := by rw [hno]; simpa using h1
            have H2 := fun W => hid (ref_name Z W (x := true) (by rw [hZd]; exact h2))
            obtain ⟨z1, z2, z3⟩ := (veq_zero _).1 h4
            have z1 : ck = 0 := z1
            have z2 : cn = 0 := z2
            have hs0 : cs.toList.isEmpty = true := by
              rw [Lib.toList_data]
              have h5 : cs.data.toList.length = 0 := by
                have h6 : cs.data.toList.length = cs.size := by simp
                rw [h6]; exact z3
              rw [List.eq_nil_of_length_eq_zero h5]; rfl
            subst z1 z2
            clear hno hon hat HKo h1 h2 h3 hZ hZd h4 z3
            go_wp2_with fail
            refine (H2 _).out.mono ?_
            rintro e w1 ⟨rfl, b1⟩
            have HB4 := hid (HBN.out.trans (b1.mono (by simp; omega)))
            have hT1 := res_keep' HTB.out b1 (by simp)
            have m1 := coh hT1 (o := 1) rfl
            have m2 := coh hT1 (o := 2) rfl
            have m3 := coh hT1 (o := 3) rfl
            clear H2 b1 HBN HTB hT1
            go_wp2
            go_roundw
            case rel => exact ⟨k + 1, by omega, by go_num, HN, HB4⟩
            case measure => simp [intOf]; omega
          · have hx : 1 = x := h3.symm.trans ((hat (by rw [h3]; decide)).symm.trans HKo.out)
            subst hx
            have hz : Z.toList.isEmpty = false := by rw [hno]; simpa using h1
            have H2 := fun W => hid (ref_name Z W (x := true) (by rw [hZd]; exact h2))
            have hways : ck ≠ 0 ∨ (ck = 0 ∧ cn ≠ 0) ∨ (ck = 0 ∧ cn = 0 ∧ cs.toList.isEmpty = false) := by
              apply Classical.byContradiction
              intro hh
              have g1 : ck = 0 := Classical.byContradiction fun e => hh (.inl e)
              have g2 : cn = 0 := Classical.byContradiction fun e => hh (.inr (.inl ⟨g1, e⟩))
              have g3 : ¬ cs.toList.isEmpty = false := fun e => hh (.inr (.inr ⟨g1, g2, e⟩))
              have g4 : cs.toList = [] := by
                cases hq : cs.toList with
                | nil => rfl
                | cons a b => rw [hq] at g3; exact absurd rfl g3
              have g5 : cs.size = 0 := by
                have h6 : cs.data.toList.length = cs.size := by simp
                rw [← h6, ← Lib.toList_data, g4]; rfl
              have := (veq_zero ⟨ck, cn, cs⟩).2 ⟨g1, g2, g5⟩
              rw [h4] at this
              cases this
            clear hno hon hat HKo h1 h2 h3 hZ hZd h4
            go_wp2_with fail
            refine (H2 _).out.mono ?_
            rintro e w1 ⟨rfl, b1⟩
            have hb4 := (atm_cells19 (HBN.out.trans (b1.mono (by simp; omega)))).2.2.2
            have hT1 := res_keep' HTB.out b1 (by simp)
            have m1 := coh hT1 (o := 1) rfl
            have m2 := coh hT1 (o := 2) rfl
            have m3 := coh hT1 (o := 3) rfl
            clear H2 b1 HBN HTB hT1
            rcases hways with g1 | ⟨rfl, g2⟩ | ⟨rfl, rfl, g3⟩
            · have bk : (ck != 0) = true := by simpa using g1
              clear g1
              go_wp2
              go_ret
              exact ⟨rfl, hb4⟩
            · have bk : (cn != 0) = true := by simpa using g2
              clear g2
              go_wp2
              go_ret
              exact ⟨rfl, hb4⟩
            · go_wp2
              go_ret
              exact ⟨rfl, hb4⟩
        · have hx : 0 = x := (firstE_end hlt).symm.trans HK.out
          subst hx
          clear HK HB
          go_wp2
          go_ret
          exact ⟨rfl, hbel⟩

/-! ### Rf5 -/

/-- The names that a rule must bind. -/
def needX (q : Qry) (r : Rul) : List Str := (q.head ++ varsL r) ++ (if 1 < q.agg then [q.aggVar] else [])
def ruleX (q : Qry) (r : Rul) : Int := if itemsE r = 0 then (if 8 < (varsL r).length then 12 else if (needX q r).all (boundB r) = true then 0 else 22) else itemsE r
theorem ruleX_eq {q : Qry} (h : aggE q = 0) (r : Rul) : ruleX q r = ruleE q r := by
  unfold ruleX ruleE
  have key : (needX q r).all (boundB r) = (needL q ++ varsL r).all (boundB r) := by
    unfold needX needL
    unfold aggE at h
    split at h
    · rename_i hg
      split at h
      · rename_i hv
        rw [if_pos hv, if_neg (by omega)]
        simp
      · exact absurd h (by decide)
    split at h
    · rename_i hg
      split at h
      · rename_i hv
        rw [if_neg (nameB_ne hv), if_pos (by omega)]
        simp only [List.all_append]
        cases q.head.all (boundB r) <;> cases (varsL r).all (boundB r) <;> cases ([q.aggVar] : List Str).all (boundB r) <;> rfl
      · exact absurd h (by decide)
    · exact absurd h (by decide)
  rw [key]
theorem conds_ne {r : Rul} (h : itemsE r = 0) : ∀ c ∈ r.conds, c.v ≠ [] := by
  unfold itemsE at h
  split at h
  · exact absurd h (by decide)
  split at h
  · exact absurd h (by decide)
  split at h
  · intro c hc
    exact nameB_ne (condE_var (firstE_zero h c hc))
  · exact absurd h (by assumption)
theorem two_blocks19 {w w' : World} {a b : Obj} (h : Below (w.heap.size + 2) ((w.alloc a).alloc b) w') :
    w'.heap[w.heap.size]? = some a ∧ w'.heap[w.heap.size + 1]? = some b ∧ w.heap.size + 2 ≤ w'.heap.size ∧ Below w.heap.size w w' := by
  refine ⟨?_, ?_, ?_, (below_two w a b).trans (h.mono (by omega))⟩
  · rw [h.block _ (by omega), heap_alloc_old _ _ (by simp)]; exact heap_alloc_new w a
  · rw [h.block _ (by omega)]
    have := heap_alloc_new (w.alloc a) b
    simpa using this
  · have := h.size
    simp at this
    omega

set_option maxRecDepth 100000 in
set_option maxHeartbeats 16000000 in
theorem ref_rule19 (q : Qry) (A R O : Option Addr) (ch cr co : Nat) (r : Rul) (TA TC : Option Addr) (ca cc : Nat) (w : World) (hq : NmsAt w A q.head) (hh : q.head.length ≤ 6) (hra : AtmsAt w TA r.atoms) (hrc : CndsAt w TC r.conds) (hm : r.atoms.length ≤ 9223372036854775807) (hm' : r.conds.length ≤ 9223372036854775807) {x : Int} (hx : ruleX q r = x) :
    Calls Tryd.prog 32 #[qryV q A R O ch cr co, .agg #[.slice TA r.atoms.length ca, .slice TC r.conds.length cc]] w fun e w' => e = .returned (.int .i64 x) ∧ Below w.heap.size w w' := by
  obtain ⟨V1, eV⟩ : ∃ v, varsL r = v := ⟨_, rfl⟩
  obtain ⟨N1, eN⟩ : ∃ v, needX q r = v := ⟨_, rfl⟩
  obtain ⟨y, ey⟩ : ∃ v, itemsE r = v := ⟨_, rfl⟩
  have HX : Hid ((if y = 0 then (if 8 < V1.length then 12 else if N1.all (boundB r) = true then 0 else 22) else y) = x) := hid (by rw [← hx]; unfold ruleX; rw [eV, eN, ey])
  have HNeed : Hid ((q.head ++ V1) ++ (if 1 < q.agg then [q.aggVar] else []) = N1) := hid (by rw [← eN, ← eV]; rfl)
  have HEV := hid eV
  have HY := hid ey
  have HA := hid hra
  have HC := hid hrc
  have HQ := hid hq
  have HFew := hid (fun h : y = 0 => few_of_items (ey.trans h))
  have CB := fun (X : ByteArray) (b : Bool) W (h1 : AtmsAt W TA r.atoms) (h2 : boundB r X.data.toList = b) => hid (ref_bound r TA TC ca r.conds.length cc X W h1 hm h2)
  unfold itemsE at ey
  obtain ⟨Y, hY, hYd⟩ : ∃ Y : ByteArray, (⟨q.aggVar.toArray⟩ : ByteArray) = Y ∧ Y.data.toList = q.aggVar := ⟨_, rfl, rfl⟩
  unfold qryV
  rw [hY]
  obtain ⟨nr, enr⟩ : ∃ n, q.rules.length = n := ⟨_, rfl⟩
  obtain ⟨no, eno⟩ : ∃ n, q.order.length = n := ⟨_, rfl⟩
  rw [enr, eno]
  have HYv : Hid (nmV q.aggVar = .string Y) := hid (by rw [← hY]; rfl)
  clear hx eV eN hra hrc hq enr eno hY hYd
  obtain ⟨hd, ga, av, rs, os⟩ := q
  simp only at hh HNeed HYv HQ ⊢
  have HB0 : Hid (Below (w.heap.size + 2) ((w.alloc (.cells #[.slice A hd.length ch, .int .i64 ga, .string Y, .slice R nr cr, .slice O no co] 26)).alloc (.cells #[.slice TA r.atoms.length ca, .slice TC r.conds.length cc] 49)) ((w.alloc (.cells #[.slice A hd.length ch, .int .i64 ga, .string Y, .slice R nr cr, .slice O no co] 26)).alloc (.cells #[.slice TA r.atoms.length ca, .slice TC r.conds.length cc] 49))) := hid (Below.refl _ _)
  obtain ⟨b0, b1, bsz, bbel⟩ := two_blocks19 HB0.out
  have HBB := hid bbel
  have r0 := coh b1 (o := 0) rfl
  have r1 := coh b1 (o := 1) rfl
  have hal : w.heap.size + 1 < ((w.alloc (.cells #[.slice A hd.length ch, .int .i64 ga, .string Y, .slice R nr cr, .slice O no co] 26)).alloc (.cells #[.slice TA r.atoms.length ca, .slice TC r.conds.length cc] 49)).heap.size := by omega
  clear b0 b1 bsz bbel
  by_cases h0 : r.atoms.length = 0
  · have h0' : r.atoms = [] := List.length_eq_zero_iff.1 h0
    rw [if_pos h0'] at ey
    subst ey
    have hx := HX.out
    rw [if_neg (by decide)] at hx
    subst hx
    have bz : ((r.atoms.length : Int) == 0) = true := by rw [beq_iff_eq]; omega
    clear h0' h0 HX HNeed HFew CB
    go_enter Tryd.func32, Tryd.ntmps32
    go_wp2
    go_ret
    exact ⟨rfl, HBB.out⟩
  · rw [if_neg (fun e => h0 (by rw [e]; rfl))] at ey
    have bz : ((r.atoms.length : Int) == 0) = false := by rw [beq_eq_false_iff_ne]; omega
    by_cases h8 : 8 < r.atoms.length
    · rw [if_pos (.inl h8)] at ey
      subst ey
      have hx := HX.out
      rw [if_neg (by decide)] at hx
      subst hx
      clear h0 HX HNeed HFew CB
      go_enter Tryd.func32, Tryd.ntmps32
      go_wp2
      go_ret
      exact ⟨rfl, HBB.out⟩
    · by_cases h8' : 8 < r.conds.length
      · rw [if_pos (.inr h8')] at ey
        subst ey
        have hx := HX.out
        rw [if_neg (by decide)] at hx
        subst hx
        clear h0 HX HNeed HFew CB
        go_enter Tryd.func32, Tryd.ntmps32
        go_wp2
        go_ret
        exact ⟨rfl, HBB.out⟩
      · rw [if_neg (by rintro (h | h); exact h8 h; exact h8' h)] at ey
        have HYY := hid ey
        clear ey
        go_enter Tryd.func32, Tryd.ntmps32
        go_wp2
        clear r0 r1 hal
        go_loopw [5] (fun i wr => ∃ k : Nat, k ≤ r.atoms.length ∧ i = .int .i64 k ∧ Hid (firstE atomE r.atoms = firstE atomE (r.atoms.drop k)) ∧ Hid (Below (w.heap.size + 2) ((w.alloc (.cells #[.slice A hd.length ch, .int .i64 ga, .string Y, .slice R nr cr, .slice O no co] 26)).alloc (.cells #[.slice TA r.atoms.length ca, .slice TC r.conds.length cc] 49)) wr)) (fun i _ => r.atoms.length - (intOf i).toNat)
        case atStart => exact ⟨0, by omega, rfl, hid rfl, HB0⟩
        case round =>
          obtain ⟨k, hk, rfl, HK, HB⟩ := hrel
          clear HB0
          obtain ⟨b0, b1, bsz, hbel⟩ := two_blocks19 HB.out
          have r0 := coh b1 (o := 0) rfl
          have r1 := coh b1 (o := 1) rfl
          clear b0 b1
          by_cases hlt : k < r.atoms.length
          · obtain ⟨bb, o, rfl, hc⟩ := HA.out (by omega)
            obtain ⟨Q, qc, d0, d1, d2, hq, hql, hqm⟩ := hc k hlt
            replace d0 := cell_keep hbel d0
            replace d1 := cell_keep hbel d1
            replace d2 := cell_keep hbel d2
            replace hq := hq.below hbel
            have hon := fun h => firstE_on (f := atomE) hlt h
            have hat := fun h => firstE_at (f := atomE) hlt h
            obtain ⟨a, ea⟩ : ∃ a, r.atoms[k] = a := ⟨_, rfl⟩
            rw [ea] at d0 d1 d2 hq hqm hon hat
            obtain ⟨z, hz⟩ : ∃ y, atomE a = y := ⟨_, rfl⟩
            rw [hz] at hon hat
            have H1 := fun W h => hid (ref_atom19 a Q qc W h hqm hz)
            obtain ⟨ng, eng⟩ : ∃ t, a.neg = t := ⟨_, rfl⟩
            obtain ⟨tl, etl⟩ : ∃ t, a.ts.length = t := ⟨_, rfl⟩
            obtain ⟨Z, hZ⟩ : ∃ Y : ByteArray, (⟨a.rel.toArray⟩ : ByteArray) = Y := ⟨_, rfl⟩
            rw [hZ] at d1
            rw [etl] at d2
            rw [eng] at d0
            rw [hZ, etl, eng] at H1
            have HKo := hid HK.out
            have HQ2 := hid hq
            have Hon := hid hon
            have Hat := hid hat
            clear HK hc hz hq hZ ea hon hat eng etl hqm hql
            by_cases hy0 : z = 0
            · have HN : Hid (firstE atomE r.atoms = firstE atomE (r.atoms.drop (k + 1))) := hid (HKo.out.trans (Hon.out hy0))
              subst hy0
              clear Hon Hat HKo
              go_wp2_with fail
              refine (H1 _ HQ2.out).out.mono ?_
              rintro e w1 ⟨rfl, b1⟩
              have HB1 := hid (HB.out.trans (b1.mono bsz))
              clear H1 b1 HQ2 HB
              go_wp2
              go_roundw
              case rel => exact ⟨k + 1, by omega, by go_num, HN, HB1⟩
              case measure => simp [intOf]; omega
            · have hx : z = x := by
                have h1 := Hat.out hy0
                have h2 := HYY.out
                rw [HKo.out, h1, if_neg hy0] at h2
                have h3 := HX.out
                rw [← h2, if_neg hy0] at h3
                exact h3
              have by0 : (z != 0) = true := by simpa using hy0
              subst hx
              clear Hon Hat HKo HX hy0
              go_wp2_with fail
              refine (H1 _ HQ2.out).out.mono ?_
              rintro e w1 ⟨rfl, b1⟩
              have hb1 := (two_blocks19 (HB.out.trans (b1.mono bsz))).2.2.2
              clear H1 b1 HQ2 HB
              go_wp2
              go_ret
              exact ⟨rfl, hb1⟩
          · have h0 : firstE atomE r.atoms = 0 := HK.out.trans (firstE_end hlt)
            have HY2 : Hid (firstE condE (r.conds.drop 0) = y) := hid (by have h2 := HYY.out; rw [if_pos h0] at h2; exact h2)
            clear HYY HK h0
            go_wp2
            clear r0 r1 hbel bsz
            go_loopw [7] (fun i wr => ∃ k : Nat, k ≤ r.conds.length ∧ i = .int .i64 k ∧ Hid (firstE condE (r.conds.drop k) = y) ∧ Hid (Below (w.heap.size + 2) ((w.alloc (.cells #[.slice A hd.length ch, .int .i64 ga, .string Y, .slice R nr cr, .slice O no co] 26)).alloc (.cells #[.slice TA r.atoms.length ca, .slice TC r.conds.length cc] 49)) wr)) (fun i _ => r.conds.length - (intOf i).toNat)
            case atStart => exact ⟨0, by omega, rfl, HY2, HB⟩
            case round =>
              clear HB HY2
              obtain ⟨k, hk, rfl, HK, HB⟩ := hrel
              obtain ⟨b0, b1, bsz, hbel⟩ := two_blocks19 HB.out
              have r0 := coh b1 (o := 0) rfl
              have r1 := coh b1 (o := 1) rfl
              by_cases hlt : k < r.conds.length
              · obtain ⟨bb, o, rfl, hc⟩ := HC.out (by omega)
                obtain ⟨d0, d1, d2, d3, d4⟩ := hc k hlt
                replace d0 := cell_keep hbel d0
                replace d1 := cell_keep hbel d1
                replace d2 := cell_keep hbel d2
                replace d3 := cell_keep hbel d3
                replace d4 := cell_keep hbel d4
                have hon := fun h => firstE_on (f := condE) hlt h
                have hat := fun h => firstE_at (f := condE) hlt h
                have hw := cond_ways r.conds[k]
                obtain ⟨⟨v, op, ⟨ck, cn, cs⟩⟩, ec⟩ : ∃ c, r.conds[k] = c := ⟨_, rfl⟩
                rw [ec] at d0 d1 d2 d3 d4 hon hat hw
                simp only at d0 d1 d2 d3 d4 hw
                obtain ⟨Z, hZ, hZd⟩ : ∃ Y : ByteArray, (⟨v.toArray⟩ : ByteArray) = Y ∧ Y.data.toList = v := ⟨_, rfl, rfl⟩
                rw [hZ] at d0
                have HBN := hid (HB.out.alloc bsz (.cells #[.string Z, .int .i64 op, .int .i64 ck, .int .i64 cn, .string cs] 62))
                have htb := heap_alloc_new wr (.cells #[.string Z, .int .i64 op, .int .i64 ck, .int .i64 cn, .string cs] 62)
                have HTB := hid htb
                have hbs1 : w.heap.size + 2 ≤ (wr.alloc (.cells #[.string Z, .int .i64 op, .int .i64 ck, .int .i64 cn, .string cs] 62)).heap.size := by simp; omega
                obtain ⟨wo, rfl⟩ : ∃ wo : World, wo = wr := ⟨_, rfl⟩
                have HKo := hid HK.out
                have Hon := hid hon
                have Hat := hid hat
                clear HK hc HB htb b0 b1 ec hon hat
                rcases hw with ⟨h1, h3⟩ | ⟨h1, h2, h3⟩ | ⟨h1, h2, h4, h3⟩ | ⟨h1, h2, h4, h5, h3⟩ | ⟨h1, h2, h4, h5, h3⟩
                · have hy7 : 7 = y := h3.symm.trans ((Hat.out (by rw [h3]; decide)).symm.trans HKo.out)
                  have hx := HX.out
                  rw [← hy7, if_neg (by decide)] at hx
                  subst hx
                  have H2 := fun W => hid (ref_name Z W (x := false) (by rw [hZd]; exact h1))
                  clear Hon Hat HKo h1 h3 hZ hZd HX hy7
                  go_wp2_with fail
                  refine (H2 _).out.mono ?_
                  rintro e w1 ⟨rfl, b1⟩
                  have hb4 := (two_blocks19 (HBN.out.trans (b1.mono hbs1))).2.2.2
                  clear H2 b1 HBN HTB
                  go_wp2
                  go_ret
                  exact ⟨rfl, hb4⟩
                · have hy2 : 2 = y := h3.symm.trans ((Hat.out (by rw [h3]; decide)).symm.trans HKo.out)
                  have hx := HX.out
                  rw [← hy2, if_neg (by decide)] at hx
                  subst hx
                  have H2 := fun W => hid (ref_name Z W (x := true) (by rw [hZd]; exact h1))
                  clear Hon Hat HKo h1 h3 hZ hZd HX hy2
                  go_wp2_with fail
                  refine (H2 _).out.mono ?_
                  rintro e w1 ⟨rfl, b1⟩
                  have hb4 := (two_blocks19 (HBN.out.trans (b1.mono hbs1))).2.2.2
                  have hT1 := res_keep' HTB.out b1 (by simp)
                  have m1 := coh hT1 (o := 1) rfl
                  clear H2 b1 HBN HTB hT1
                  go_wp2
                  go_ret
                  exact ⟨rfl, hb4⟩
                · have hy2 : 2 = y := h3.symm.trans ((Hat.out (by rw [h3]; decide)).symm.trans HKo.out)
                  have hx := HX.out
                  rw [← hy2, if_neg (by decide)] at hx
                  subst hx
                  have H2 := fun W => hid (ref_name Z W (x := true) (by rw [hZd]; exact h1))
                  clear Hon Hat HKo h1 h3 hZ hZd HX hy2
                  go_wp2_with fail
                  refine (H2 _).out.mono ?_
                  rintro e w1 ⟨rfl, b1⟩
                  have hb4 := (two_blocks19 (HBN.out.trans (b1.mono hbs1))).2.2.2
                  have hT1 := res_keep' HTB.out b1 (by simp)
                  have m1 := coh hT1 (o := 1) rfl
                  clear H2 b1 HBN HTB hT1
                  go_wp2
                  go_ret
                  exact ⟨rfl, hb4⟩
                · have hy4 : 4 = y := h3.symm.trans ((Hat.out (by rw [h3]; decide)).symm.trans HKo.out)
                  have hx := HX.out
                  rw [← hy4, if_neg (by decide)] at hx
                  subst hx
                  have H2 := fun W => hid (ref_name Z W (x := true) (by rw [hZd]; exact h1))
                  have H3 := fun W => hid (ref_valid03 ⟨ck, cn, cs⟩ W h5)
                  clear Hon Hat HKo h1 h3 hZ hZd HX hy4 h5
                  go_wp2_with fail
                  refine (H2 _).out.mono ?_
                  rintro e w1 ⟨rfl, b1⟩
                  have HB4 := hid (HBN.out.trans (b1.mono hbs1))
                  have hbs4 := Nat.le_trans hbs1 b1.size
                  have hT1 := res_keep' HTB.out b1 (by simp)
                  have m1 := coh hT1 (o := 1) rfl
                  have m2 := coh hT1 (o := 2) rfl
                  have m3 := coh hT1 (o := 3) rfl
                  have m4 := coh hT1 (o := 4) rfl
                  clear H2 b1 HBN HTB hT1
                  go_wp2_with fail
                  refine (H3 _).out.mono ?_
                  rintro e w2 ⟨rfl, b2⟩
                  have hb5 := (two_blocks19 (HB4.out.trans (b2.mono hbs4))).2.2.2
                  clear H3 b2 HB4 m1 m2 m3 m4
                  go_wp2
                  go_ret
                  exact ⟨rfl, hb5⟩
                · have HN : Hid (firstE condE (r.conds.drop (k + 1)) = y) := hid ((Hon.out h3).symm.trans HKo.out)
                  have H2 := fun W => hid (ref_name Z W (x := true) (by rw [hZd]; exact h1))
                  have H3 := fun W => hid (ref_valid03 ⟨ck, cn, cs⟩ W h5)
                  clear Hon Hat HKo h1 h3 hZ hZd h5
                  go_wp2_with fail
                  refine (H2 _).out.mono ?_
                  rintro e w1 ⟨rfl, b1⟩
                  have HB4 := hid (HBN.out.trans (b1.mono hbs1))
                  have hbs4 := Nat.le_trans hbs1 b1.size
                  have hT1 := res_keep' HTB.out b1 (by simp)
                  have m1 := coh hT1 (o := 1) rfl
                  have m2 := coh hT1 (o := 2) rfl
                  have m3 := coh hT1 (o := 3) rfl
                  have m4 := coh hT1 (o := 4) rfl
                  clear H2 b1 HBN HTB hT1
                  go_wp2_with fail
                  refine (H3 _).out.mono ?_
                  rintro e w2 ⟨rfl, b2⟩
                  have HB5 := hid (HB4.out.trans (b2.mono hbs4))
                  clear H3 b2 HB4 m1 m2 m3 m4
                  go_wp2
                  go_roundw
                  case rel => exact ⟨k + 1, by omega, by go_num, HN, HB5⟩
                  case measure => simp [intOf]; omega
              · have hyy : 0 = y := (firstE_end hlt).symm.trans HK.out
                subst hyy
                have hfew := HFew.out rfl
                have hne := conds_ne HY.out
                have CV := fun W h1 h2 => hid (ref_vars19 r TA TC ca cc W h1 h2 hfew hne HEV.out)
                have HX2 : Hid ((if 8 < V1.length then 12 else if N1.all (boundB r) = true then 0 else 22) = x) := hid (by have := HX.out; rw [if_pos rfl] at this; exact this)
                clear HX HFew HK HY hfew hne b0 b1 HEV
                go_wp2_with fail
                refine (CV _ (HA.out.below hbel) (HC.out.below hbel)).out.mono ?_
                rintro e wv ⟨AV, cV, rfl, hoV, bV⟩
                have HBV : Hid (Below (w.heap.size + 2) ((w.alloc (.cells #[.slice A hd.length ch, .int .i64 ga, .string Y, .slice R nr cr, .slice O no co] 26)).alloc (.cells #[.slice TA r.atoms.length ca, .slice TC r.conds.length cc] 49)) wv) := hid (HB.out.trans (bV.mono bsz))
                obtain ⟨_, _, hu, hAV, _⟩ := own_names hoV
                injection hu with e1 _ e3
                subst e1 e3
                have HNV := hid hAV
                clear hoV hAV bV HB CV r0 r1 bsz hbel
                by_cases h8v : 8 < V1.length
                · have hxx : 12 = x := by have h := HX2.out; rw [if_pos h8v] at h; exact h
                  subst hxx
                  have hb9 := (two_blocks19 HBV.out).2.2.2
                  clear HX2 HNeed HBV HNV
                  go_wp2
                  go_ret
                  exact ⟨rfl, hb9⟩
                · obtain ⟨q0, _, bszV, hbelV⟩ := two_blocks19 HBV.out
                  have HQ0 := hid q0
                  have HM1 : Hid ((wv.alloc (.cells #[] 9)).ownsRow wv.heap.size 9 1 (.slice (some ⟨wv.heap.size, 0, none⟩) 0 0) 0 (([] : List Str).map nmV)) := hid (World.ownsRow_made wv #[] 0 (Nat.le_refl _) (by decide) (by simp))
                  have HQ1 := hid ((HQ.out.below hbelV).below (below_one wv (.cells #[] 9)))
                  have HBV1 : Hid (Below wv.heap.size wv (wv.alloc (.cells #[] 9))) := hid (below_one wv _)
                  have c0 := cell_keep HBV1.out (coh q0 (o := 0) rfl)
                  have hV8 : V1.length ≤ 8 := by omega
                  have hszv1 : wv.heap.size ≤ (wv.alloc (.cells #[] 9)).heap.size := by simp
                  clear q0
                  obtain ⟨i0, hi, hz0, hz1, hz2⟩ := info_parts infoStr
                  by_cases hga : 1 < ga
                  · go_wp2_with (first
                      | (at_builtin; refine wpList_append_nms rfl rfl rfl HM1.out rfl HQ1.out (by omega) hszv1 ?_; intro v3 w3 hown3 hg3; have HB3 : Hid (Below wv.heap.size wv w3) := hid (HBV1.out.trans (grown_below HM1.out hg3 hszv1)); have HO3 := hid hown3; have HNV3 := hid (HNV.out.below HB3.out); clear hown3 hg3)
                      | (at_builtin; refine wpList_append_nms rfl rfl rfl HO3.out rfl HNV3.out (by omega) HB3.out.size ?_; intro v4 w4 hown4 hg4; have HB4 : Hid (Below wv.heap.size wv w4) := hid (HB3.out.trans (grown_below HO3.out hg4 HB3.out.size)); have HO4 := hid hown4; have hq4 := (HB4.out.block _ (by omega)).trans HQ0.out; have c14 := coh hq4 (o := 1) rfl; have c24 := coh hq4 (o := 2) rfl; clear hown4 hg4 hq4)
                      | (at_builtin; refine wpList_append_new2 Tryd.underlying22 hi hz0 hz1 hz2 rfl (by decide) (by decide) rfl rfl rfl HO4.out rfl (by simp) rfl rfl (by omega) HB4.out.size ?_; intro v5 w5 hown5 hg5; have HB5 : Hid (Below wv.heap.size wv w5) := hid (HB4.out.trans (grown_below HO4.out hg5 HB4.out.size)); have HO5 := hid hown5; clear hown5 hg5))
                    have HON : Hid (w5.ownsRow wv.heap.size 9 1 v5 N1.length (N1.map nmV)) := hid (by
                      have h := HO5.out
                      have e := HNeed.out
                      rw [if_pos hga] at e
                      rw [← e, List.length_append, List.length_append, List.map_append, List.map_singleton, HYv.out]
                      simpa using h)
                    have HBn : Hid (Below (w.heap.size + 2) ((w.alloc (.cells #[.slice A hd.length ch, .int .i64 ga, .string Y, .slice R nr cr, .slice O no co] 26)).alloc (.cells #[.slice TA r.atoms.length ca, .slice TC r.conds.length cc] 49)) w5) := hid (HBV.out.trans (HB5.out.mono bszV))
                    clear HM1 HQ0 HB3 HB4 HO3 HO4 HO5 HB5 HNV HNV3 c0 c14 c24 HBV HBV1 HQ1 hbelV bszV hszv1 HQ hga HYv
                    obtain ⟨AN, cN, rfl, hN, _⟩ := own_names HON.out
                    have HN := hid hN
                    have HBn0 := HBn
                    have hNl : N1.length ≤ 15 := by
                      rw [← HNeed.out]
                      simp only [List.length_append]
                      split <;> simp <;> omega
                    clear HON hN HNeed
                    go_wp2
                    go_loopw [11] (fun i wr => ∃ k : Nat, k ≤ N1.length ∧ i = .int .i64 k ∧ Hid ((N1.take k).all (boundB r) = true) ∧ Hid (NmsAt wr AN N1) ∧ Hid (Below (w.heap.size + 2) ((w.alloc (.cells #[.slice A hd.length ch, .int .i64 ga, .string Y, .slice R nr cr, .slice O no co] 26)).alloc (.cells #[.slice TA r.atoms.length ca, .slice TC r.conds.length cc] 49)) wr)) (fun i _ => N1.length - (intOf i).toNat)
                    case atStart => exact ⟨0, by omega, rfl, hid rfl, HN, HBn⟩
                    case round =>
                      clear HN HBn HBn0
                      obtain ⟨k, hk, rfl, HK, HN, HB⟩ := hrel
                      obtain ⟨b0, b1, bsz, hbel⟩ := two_blocks19 HB.out
                      have r0 := coh b1 (o := 0) rfl
                      have r1 := coh b1 (o := 1) rfl
                      clear b0 b1
                      by_cases hlt : k < N1.length
                      · obtain ⟨bn, o, rfl, hc⟩ := id HN.out (by omega)
                        have c0 := hc k hlt
                        have hst := all_take_succ (boundB r) N1 k hlt
                        have hbad := all_bad (boundB r) N1 k hlt
                        obtain ⟨Z, hZ, hZd⟩ : ∃ Y : ByteArray, (⟨N1[k].toArray⟩ : ByteArray) = Y ∧ Y.data.toList = N1[k] := ⟨_, rfl, rfl⟩
                        rw [hZ] at c0
                        rw [← hZd] at hst hbad
                        obtain ⟨bb, hbb⟩ : ∃ b, boundB r Z.data.toList = b := ⟨_, rfl⟩
                        have CZ := fun W h => hid (CB Z bb W h hbb).out
                        rw [hbb] at hst hbad
                        have Hst := hid hst
                        have Hbad := hid hbad
                        obtain ⟨wo, rfl⟩ : ∃ wo : World, wo = wr := ⟨_, rfl⟩
                        clear hc hZ hZd hbb hst hbad
                        go_wp2
                        go_still_tail 5, (by kernel_rfl)
                        change wpList _ _ _ _ _ wo.drew
                        have HAd := hid (HA.out.below (hbel.trans ((Below.refl _ wo).drew.mono hbel.size)))
                        have HNd := hid (HN.out.below (Below.refl _ wo).drew)
                        have HBd : Hid (Below (w.heap.size + 2) ((w.alloc (.cells #[.slice A hd.length ch, .int .i64 ga, .string Y, .slice R nr cr, .slice O no co] 26)).alloc (.cells #[.slice TA r.atoms.length ca, .slice TC r.conds.length cc] 49)) wo.drew) := hid HB.out.drew
                        have hszd : w.heap.size + 2 ≤ wo.drew.heap.size := bsz
                        clear HN HB hbel r0 r1 c0 bsz
                        generalize wo.drew = wd at *
                        go_wp2_with fail
                        refine (CZ _ HAd.out).out.mono ?_
                        rintro e w1 ⟨rfl, b1⟩
                        have HN1 := hid (HNd.out.below b1)
                        have HB1 := hid (HBd.out.trans (b1.mono hszd))
                        clear CZ HAd HNd HBd b1 hszd
                        cases bb
                        · have hxx : 22 = x := by
                            have h := HX2.out
                            rw [if_neg h8v, if_neg (by rw [Hbad.out rfl]; decide)] at h
                            exact h
                          subst hxx
                          have hb9 := (two_blocks19 HB1.out).2.2.2
                          clear HX2 Hst Hbad HN1 HB1 HK
                          go_wp2
                          go_ret
                          exact ⟨rfl, hb9⟩
                        · have HK1 : Hid ((N1.take (k + 1)).all (boundB r) = true) := hid (by rw [Hst.out, HK.out]; rfl)
                          clear Hst Hbad HK
                          go_wp2
                          go_roundw
                          case rel => exact ⟨k + 1, by omega, by go_num, HK1, HN1, HB1⟩
                          case measure => simp [intOf]; omega
                      · have hxx : 0 = x := by
                          have h := HX2.out
                          have h9 := HK.out
                          rw [List.take_of_length_le (by omega)] at h9
                          rw [if_neg h8v, if_pos h9] at h
                          exact h
                        subst hxx
                        clear HX2 HK HN
                        go_wp2
                        go_ret
                        exact ⟨rfl, hbel⟩
                  · go_wp2_with (first
                      | (at_builtin; refine wpList_append_nms rfl rfl rfl HM1.out rfl HQ1.out (by omega) hszv1 ?_; intro v3 w3 hown3 hg3; have HB3 : Hid (Below wv.heap.size wv w3) := hid (HBV1.out.trans (grown_below HM1.out hg3 hszv1)); have HO3 := hid hown3; have HNV3 := hid (HNV.out.below HB3.out); clear hown3 hg3)
                      | (at_builtin; refine wpList_append_nms rfl rfl rfl HO3.out rfl HNV3.out (by omega) HB3.out.size ?_; intro v4 w4 hown4 hg4; have HB4 : Hid (Below wv.heap.size wv w4) := hid (HB3.out.trans (grown_below HO3.out hg4 HB3.out.size)); have HO4 := hid hown4; have hq4 := (HB4.out.block _ (by omega)).trans HQ0.out; have c14 := coh hq4 (o := 1) rfl; have c24 := coh hq4 (o := 2) rfl; clear hown4 hg4 hq4))
                    have HON : Hid (w4.ownsRow wv.heap.size 9 1 v4 N1.length (N1.map nmV)) := hid (by
                      have h := HO4.out
                      have e := HNeed.out
                      rw [if_neg (by omega), List.append_nil] at e
                      rw [← e, List.length_append]
                      simpa using h)
                    have HBn : Hid (Below (w.heap.size + 2) ((w.alloc (.cells #[.slice A hd.length ch, .int .i64 ga, .string Y, .slice R nr cr, .slice O no co] 26)).alloc (.cells #[.slice TA r.atoms.length ca, .slice TC r.conds.length cc] 49)) w4) := hid (HBV.out.trans (HB4.out.mono bszV))
                    clear HM1 HQ0 HB3 HB4 HO3 HO4 HNV HNV3 c0 c14 c24 HBV HBV1 HQ1 hbelV bszV hszv1 HQ HYv
                    obtain ⟨AN, cN, rfl, hN, _⟩ := own_names HON.out
                    have HN := hid hN
                    have HBn0 := HBn
                    have hNl : N1.length ≤ 15 := by
                      rw [← HNeed.out]
                      simp only [List.length_append]
                      split <;> simp <;> omega
                    clear HON hN HNeed
                    go_wp2
                    go_loopw [11] (fun i wr => ∃ k : Nat, k ≤ N1.length ∧ i = .int .i64 k ∧ Hid ((N1.take k).all (boundB r) = true) ∧ Hid (NmsAt wr AN N1) ∧ Hid (Below (w.heap.size + 2) ((w.alloc (.cells #[.slice A hd.length ch, .int .i64 ga, .string Y, .slice R nr cr, .slice O no co] 26)).alloc (.cells #[.slice TA r.atoms.length ca, .slice TC r.conds.length cc] 49)) wr)) (fun i _ => N1.length - (intOf i).toNat)
                    case atStart => exact ⟨0, by omega, rfl, hid rfl, HN, HBn⟩
                    case round =>
                      clear HN HBn HBn0
                      obtain ⟨k, hk, rfl, HK, HN, HB⟩ := hrel
                      obtain ⟨b0, b1, bsz, hbel⟩ := two_blocks19 HB.out
                      have r0 := coh b1 (o := 0) rfl
                      have r1 := coh b1 (o := 1) rfl
                      clear b0 b1
                      by_cases hlt : k < N1.length
                      · obtain ⟨bn, o, rfl, hc⟩ := id HN.out (by omega)
                        have c0 := hc k hlt
                        have hst := all_take_succ (boundB r) N1 k hlt
                        have hbad := all_bad (boundB r) N1 k hlt
                        obtain ⟨Z, hZ, hZd⟩ : ∃ Y : ByteArray, (⟨N1[k].toArray⟩ : ByteArray) = Y ∧ Y.data.toList = N1[k] := ⟨_, rfl, rfl⟩
                        rw [hZ] at c0
                        rw [← hZd] at hst hbad
                        obtain ⟨bb, hbb⟩ : ∃ b, boundB r Z.data.toList = b := ⟨_, rfl⟩
                        have CZ := fun W h => hid (CB Z bb W h hbb).out
                        rw [hbb] at hst hbad
                        have Hst := hid hst
                        have Hbad := hid hbad
                        obtain ⟨wo, rfl⟩ : ∃ wo : World, wo = wr := ⟨_, rfl⟩
                        clear hc hZ hZd hbb hst hbad
                        go_wp2
                        go_still_tail 5, (by kernel_rfl)
                        change wpList _ _ _ _ _ wo.drew
                        have HAd := hid (HA.out.below (hbel.trans ((Below.refl _ wo).drew.mono hbel.size)))
                        have HNd := hid (HN.out.below (Below.refl _ wo).drew)
                        have HBd : Hid (Below (w.heap.size + 2) ((w.alloc (.cells #[.slice A hd.length ch, .int .i64 ga, .string Y, .slice R nr cr, .slice O no co] 26)).alloc (.cells #[.slice TA r.atoms.length ca, .slice TC r.conds.length cc] 49)) wo.drew) := hid HB.out.drew
                        have hszd : w.heap.size + 2 ≤ wo.drew.heap.size := bsz
                        clear HN HB hbel r0 r1 c0 bsz
                        generalize wo.drew = wd at *
                        go_wp2_with fail
                        refine (CZ _ HAd.out).out.mono ?_
                        rintro e w1 ⟨rfl, b1⟩
                        have HN1 := hid (HNd.out.below b1)
                        have HB1 := hid (HBd.out.trans (b1.mono hszd))
                        clear CZ HAd HNd HBd b1 hszd
                        cases bb
                        · have hxx : 22 = x := by
                            have h := HX2.out
                            rw [if_neg h8v, if_neg (by rw [Hbad.out rfl]; decide)] at h
                            exact h
                          subst hxx
                          have hb9 := (two_blocks19 HB1.out).2.2.2
                          clear HX2 Hst Hbad HN1 HB1 HK
                          go_wp2
                          go_ret
                          exact ⟨rfl, hb9⟩
                        · have HK1 : Hid ((N1.take (k + 1)).all (boundB r) = true) := hid (by rw [Hst.out, HK.out]; rfl)
                          clear Hst Hbad HK
                          go_wp2
                          go_roundw
                          case rel => exact ⟨k + 1, by omega, by go_num, HK1, HN1, HB1⟩
                          case measure => simp [intOf]; omega
                      · have hxx : 0 = x := by
                          have h := HX2.out
                          have h9 := HK.out
                          rw [List.take_of_length_le (by omega)] at h9
                          rw [if_neg h8v, if_pos h9] at h
                          exact h
                        subst hxx
                        clear HX2 HK HN
                        go_wp2
                        go_ret
                        exact ⟨rfl, hbel⟩

/-! ### Rf6 -/

theorem nodup_le19 {α : Type} : ∀ {l m : List α}, l.Nodup → (∀ x ∈ l, x ∈ m) → l.length ≤ m.length
  | [], _, _, _ => by simp
  | x :: l, m, hn, hs => by
    rw [List.nodup_cons] at hn
    obtain ⟨m1, m2, rfl⟩ := List.append_of_mem (hs x (List.mem_cons_self ..))
    have := nodup_le19 (l := l) (m := m1 ++ m2) hn.2 fun y hy => by
      have h1 := hs y (List.mem_cons_of_mem _ hy)
      rcases List.mem_append.1 h1 with h | h
      · exact List.mem_append_left _ h
      · rcases List.mem_cons.1 h with rfl | h
        · exact absurd hy hn.1
        · exact List.mem_append_right _ h
    simp only [List.length_append, List.length_cons] at this ⊢
    omega
theorem take_all {l : List Str} {k : Nat} (h : ¬ k < l.length) : l.take k = l := List.take_of_length_le (by omega)

set_option maxRecDepth 100000 in
set_option maxHeartbeats 16000000 in
theorem ref_check19 (q : Qry) (A R O : Option Addr) (ch cr co : Nat) (w : World) (hq : QryIn w q A R O ch cr co) {x : Int} (hx : checkQ q = x) :
    Calls Tryd.prog 12 #[qryV q A R O ch cr co] w fun e w' => e = .returned (.int .i64 x) ∧ Below w.heap.size w w' := by
  obtain ⟨y1, e1⟩ : ∃ y, headE q.head = y := ⟨_, rfl⟩
  obtain ⟨y2, e2⟩ : ∃ y, aggE q = y := ⟨_, rfl⟩
  obtain ⟨y3, e3⟩ : ∃ y, firstE (ruleE q) q.rules = y := ⟨_, rfl⟩
  obtain ⟨y4, e4⟩ : ∃ y, orderE q = y := ⟨_, rfl⟩
  have CR := fun (r : Rul) TA TC ca cc W (h1 : NmsAt W A q.head) (h2 : q.head.length ≤ 6) (h3 : AtmsAt W TA r.atoms) (h4 : CndsAt W TC r.conds) h5 h6 (y : Int) (h7 : aggE q = 0) (h8 : ruleE q r = y) => hid (ref_rule19 q A R O ch cr co r TA TC ca cc W h1 h2 h3 h4 h5 h6 ((ruleX_eq h7 r).trans h8))
  unfold checkQ at hx
  rw [e1, e2, e3, e4] at hx
  have hr0 : q.rules = [] ↔ q.rules.length = 0 := List.length_eq_zero_iff.symm
  simp only [hr0] at hx
  have HX := hid hx
  have HHd := hid hq.head
  have HRl := hid hq.rules
  have HOr := hid hq.order
  have lh := hq.lh
  have mh := hq.mh
  have mr := hq.mr
  have mo := hq.mo
  obtain ⟨Y, hY, hYd⟩ : ∃ Y : ByteArray, (⟨q.aggVar.toArray⟩ : ByteArray) = Y ∧ Y.data.toList = q.aggVar := ⟨_, rfl, rfl⟩
  unfold qryV at CR ⊢
  rw [hY] at CR ⊢
  have HYd := hid hYd
  have HYl : Hid (Y.toList = q.aggVar) := hid (by rw [Lib.toList_data]; exact hYd)
  have E1 := hid e1
  have E2 := hid e2
  have E3 := hid e3
  have E4 := hid e4
  obtain ⟨i0, hi, hz0, hz1, hz2⟩ := info_parts infoStr
  clear hx hq hr0 e1 e2 e3 e4 hY hYd
  obtain ⟨hd, ga, av, rs, os⟩ := q
  simp only at HX HHd HRl HOr lh mh mr mo HYd HYl E1 E2 E3 E4 CR ⊢
  have HB0 : Hid (Below (w.heap.size + 1) (w.alloc (.cells #[.slice A hd.length ch, .int .i64 ga, .string Y, .slice R rs.length cr, .slice O os.length co] 26)) (w.alloc (.cells #[.slice A hd.length ch, .int .i64 ga, .string Y, .slice R rs.length cr, .slice O os.length co] 26))) := hid (Below.refl _ _)
  obtain ⟨_, _, _, _, _, qlt, hb0⟩ := qry_cells HB0.out
  by_cases h0 : rs.length = 0
  · have hx := HX.out
    rw [if_pos h0] at hx
    subst hx
    have bz0 : ((rs.length : Int) == 0) = true := by rw [beq_iff_eq]; omega
    clear h0 HX HB0
    go_enter Tryd.func12, Tryd.ntmps12
    go_wp2
    go_ret
    exact ⟨rfl, hb0⟩
  · have bz : ((rs.length : Int) == 0) = false := by rw [beq_eq_false_iff_ne]; omega
    by_cases h3 : 3 < rs.length
    · have hx := HX.out
      rw [if_neg h0, if_pos (.inl h3)] at hx
      subst hx
      clear HX h0 HB0
      go_enter Tryd.func12, Tryd.ntmps12
      go_wp2
      go_ret
      exact ⟨rfl, hb0⟩
    · by_cases hm : 1 < rs.length ∧ ga ≠ 0
      · have hx := HX.out
        rw [if_neg h0, if_pos (.inr hm)] at hx
        subst hx
        obtain ⟨h1, h2⟩ := hm
        have bg : (ga != 0) = true := by simpa using h2
        clear HX h0 h2 HB0
        go_enter Tryd.func12, Tryd.ntmps12
        go_wp2
        go_ret
        exact ⟨rfl, hb0⟩
      · have hx := HX.out
        rw [if_neg h0, if_neg (by rintro (h | h); exact h3 h; exact hm h)] at hx
        have HX2 := hid hx
        have hway : ¬ 1 < rs.length ∨ (1 < rs.length ∧ (ga != 0) = false) := by
          by_cases h : 1 < rs.length
          · right; exact ⟨h, by simpa using fun e => hm ⟨h, e⟩⟩
          · left; exact h
        clear hx HX hm h0
        by_cases h6 : 6 < hd.length
        · have hy1 : y1 = 12 := by rw [← E1.out]; unfold headE; rw [if_pos h6]
          have hx := HX2.out
          rw [hy1, if_pos (by decide)] at hx
          subst hx
          clear HX2 hy1 HB0
          rcases hway with h1 | ⟨h1, bg⟩
          all_goals
            go_enter Tryd.func12, Tryd.ntmps12
            go_wp2
            go_ret
            exact ⟨rfl, hb0⟩
        · have HH : Hid (headGo (hd.take 0) (hd.drop 0) = y1) := hid (by rw [← E1.out]; unfold headE; rw [if_neg h6]; rfl)
          clear hb0 qlt
          rcases hway with h1 | ⟨h1, bg⟩
          all_goals
            go_enter Tryd.func12, Tryd.ntmps12
            go_wp2
            go_loopw [3] (fun i wr => ∃ k : Nat, k ≤ hd.length ∧ i = .int .i64 k ∧ Hid (headGo (hd.take k) (hd.drop k) = y1) ∧ Hid (Below (w.heap.size + 1) (w.alloc (.cells #[.slice A hd.length ch, .int .i64 ga, .string Y, .slice R rs.length cr, .slice O os.length co] 26)) wr)) (fun i _ => hd.length - (intOf i).toNat)
            case atStart => exact ⟨0, by omega, rfl, HH, HB0⟩
            case round =>
              obtain ⟨k, hk, rfl, HK, HB⟩ := hrel
              clear HH HB0
              obtain ⟨q0, q1, q2, q3, q4, qlt, hbel⟩ := qry_cells HB.out
              have hsz := HB.out.size
              simp only [World.size_alloc] at hsz
              by_cases hlt : k < hd.length
              · obtain ⟨bb, o, rfl, hc⟩ := HHd.out (by omega)
                have c0 := cell_keep hbel (hc k hlt)
                have hon := fun h1 h2 => headGo_on hlt h1 h2
                have hnm := fun h1 => headGo_name hlt h1
                have htw := fun h1 h2 => headGo_twice hlt h1 h2
                obtain ⟨v, ev⟩ : ∃ v, hd[k] = v := ⟨_, rfl⟩
                rw [ev] at c0 hon hnm htw
                obtain ⟨Z, hZ, hZd⟩ : ∃ Y : ByteArray, (⟨v.toArray⟩ : ByteArray) = Y ∧ Y.data.toList = v := ⟨_, rfl, rfl⟩
                rw [hZ] at c0
                have hcZ := hc k hlt
                rw [ev, hZ] at hcZ
                cases hn : nameB v
                · have H2 := fun W => hid (ref_name Z W (x := false) (by rw [hZd]; exact hn))
                  have hy1 : 7 = y1 := (hnm hn).symm.trans HK.out
                  have hx := HX2.out
                  rw [← hy1, if_pos (by decide)] at hx
                  subst hx
                  clear hc ev hon hnm htw hZ hZd hn HK HX2 hy1
                  go_wp2_with fail
                  refine (H2 _).out.mono ?_
                  rintro e w1 ⟨rfl, b1⟩
                  have hb4 := (qry_cells (HB.out.trans (b1.mono (by omega)))).2.2.2.2.2.2
                  clear H2 b1 HB q0 q1 q2 q3 q4
                  go_wp2
                  go_ret
                  exact ⟨rfl, hb4⟩
                · have H2 := fun W => hid (ref_name Z W (x := true) (by rw [hZd]; exact hn))
                  obtain ⟨ix, hix⟩ : ∃ i, idxL (hd.take k) Z.data.toList = i := ⟨_, rfl⟩
                  have hin := idxL_in (hd.take k) Z.data.toList
                  rw [hix, hZd] at hin
                  have hlk : (hd.take k).length = k := by simp only [List.length_take]; omega
                  have CI := fun W h => hid (ref_index (some ⟨bb, o, none⟩) ch (hd.take k) Z W h (by omega) hix)
                  rw [hlk] at CI
                  have hkc : k ≤ ch := by omega
                  have HHt := hid (HHd.out.take k)
                  by_cases hm : v ∈ hd.take k
                  · have hix0 : 0 ≤ ix := hin.1.2 hm
                    have hy1 : 8 = y1 := (htw hn hm).symm.trans HK.out
                    have hx := HX2.out
                    rw [← hy1, if_pos (by decide)] at hx
                    subst hx
                    clear hc ev hon hnm htw hZ hZd hn HK HX2 hy1 hin hix hm hlk
                    go_wp2_with fail
                    refine (H2 _).out.mono ?_
                    rintro e w1 ⟨rfl, b1⟩
                    have HB1 := hid (HB.out.trans (b1.mono (by omega)))
                    clear H2 b1 HB q0 q1 q2 q3 q4 qlt
                    obtain ⟨q0, q1, q2, q3, q4, qlt, hbel1⟩ := qry_cells HB1.out
                    have c1 := cell_keep hbel1 (hcZ)
                    go_wp2
                    go_still_tail 9, (by kernel_rfl)
                    change wpList _ _ _ _ _ w1.drew
                    have HB4 := hid (show Below (w.heap.size + 1) _ w1.drew from HB1.out.drew)
                    have HH4 := hid (HHt.out.below (hbel1.trans ((Below.refl _ w1).drew.mono hbel1.size)))
                    have hb4 := (qry_cells HB4.out).2.2.2.2.2.2
                    clear q0 q1 q2 q3 q4 qlt hbel1 c1 c0 HB1 HHt hbel
                    generalize w1.drew = wd at *
                    go_wp2_with fail
                    refine (CI _ HH4.out).out.mono ?_
                    rintro e w2 ⟨rfl, rfl⟩
                    clear CI HH4
                    go_wp2
                    go_ret
                    exact ⟨rfl, hb4⟩
                  · have hix0 : ix < 0 := by
                      apply Classical.byContradiction
                      intro h
                      exact hm (hin.1.1 (by omega))
                    have HN : Hid (headGo (hd.take (k + 1)) (hd.drop (k + 1)) = y1) := hid ((hon hn hm).symm.trans HK.out)
                    clear hc ev hon hnm htw hZ hZd hn HK hin hix hm hlk
                    go_wp2_with fail
                    refine (H2 _).out.mono ?_
                    rintro e w1 ⟨rfl, b1⟩
                    have HB1 := hid (HB.out.trans (b1.mono (by omega)))
                    clear H2 b1 HB q0 q1 q2 q3 q4 qlt
                    obtain ⟨q0, q1, q2, q3, q4, qlt, hbel1⟩ := qry_cells HB1.out
                    have c1 := cell_keep hbel1 (hcZ)
                    go_wp2
                    go_still_tail 9, (by kernel_rfl)
                    change wpList _ _ _ _ _ w1.drew
                    have HB4 := hid (show Below (w.heap.size + 1) _ w1.drew from HB1.out.drew)
                    have HH4 := hid (HHt.out.below (hbel1.trans ((Below.refl _ w1).drew.mono hbel1.size)))
                    have hb4 := (qry_cells HB4.out).2.2.2.2.2.2
                    clear q0 q1 q2 q3 q4 qlt hbel1 c1 c0 HB1 HHt hbel
                    generalize w1.drew = wd at *
                    go_wp2_with fail
                    refine (CI _ HH4.out).out.mono ?_
                    rintro e w2 ⟨rfl, rfl⟩
                    clear CI HH4
                    go_wp2
                    go_roundw
                    case rel => exact ⟨k + 1, by omega, by go_num, HN, HB4⟩
                    case measure => simp [intOf]; omega
              · have hy1 : 0 = y1 := by
                  have h := HK.out
                  rw [take_all hlt, List.drop_eq_nil_of_le (by omega)] at h
                  exact h
                have HX3 : Hid ((if y2 ≠ 0 then y2 else if y3 ≠ 0 then y3 else y4) = x) := hid (by have h := HX2.out; rw [← hy1, if_neg (by decide)] at h; exact h)
                clear HX2 HK hy1
                by_cases g0 : ga < 0
                · have hy2 : y2 = 2 := by rw [← E2.out]; unfold aggE; rw [if_neg (by simp only; omega), if_neg (by simp only; omega)]
                  have hx := HX3.out
                  rw [hy2, if_pos (by decide)] at hx
                  subst hx
                  clear HX3 hy2 CR HB
                  go_wp2
                  go_ret
                  exact ⟨rfl, hbel⟩
                · by_cases g4 : 4 < ga
                  · have hy2 : y2 = 2 := by rw [← E2.out]; unfold aggE; rw [if_neg (by simp only; omega), if_neg (by simp only; omega)]
                    have hx := HX3.out
                    rw [hy2, if_pos (by decide)] at hx
                    subst hx
                    clear HX3 hy2 CR HB
                    go_wp2
                    go_ret
                    exact ⟨rfl, hbel⟩
                  · by_cases g2 : ga < 2
                    · by_cases hv : av = []
                      · have hze : Y.toList.isEmpty = true := by rw [HYl.out, hv]; rfl
                        have hy2 : y2 = 0 := by rw [← E2.out]; unfold aggE; rw [if_pos (by simp only; omega), if_pos hv]
                        have HBX := HB
                        clear hv HB
                        have HX4 : Hid ((if y3 ≠ 0 then y3 else y4) = x) := hid (by have h := HX3.out; rw [hy2, if_neg (by decide)] at h; exact h)
                        have HAG : Hid (aggE ⟨hd, ga, av, rs, os⟩ = 0) := hid (E2.out.trans hy2)
                        clear HX3 E2 hy2
                        go_wp2
                        go_loopw [4] (fun i wr => ∃ k : Nat, k ≤ rs.length ∧ i = .int .i64 k ∧ Hid (firstE (ruleE ⟨hd, ga, av, rs, os⟩) (rs.drop k) = y3) ∧ Hid (Below (w.heap.size + 1) (w.alloc (.cells #[.slice A hd.length ch, .int .i64 ga, .string Y, .slice R rs.length cr, .slice O os.length co] 26)) wr)) (fun i _ => rs.length - (intOf i).toNat)
                        case atStart => exact ⟨0, by omega, rfl, hid E3.out, HBX⟩
                        case round =>
                          clear HBX q0 q1 q2 q3 q4 qlt hbel
                          obtain ⟨k, hk, rfl, HK, HB⟩ := hrel
                          obtain ⟨q0, q1, q2, q3, q4, qlt, hbel⟩ := qry_cells HB.out
                          by_cases hlt : k < rs.length
                          · obtain ⟨bb, o, rfl, hc⟩ := HRl.out (by omega)
                            obtain ⟨TA, ca, TC, cc, c0, c1, hra, hrc, _, _, hma, hmc⟩ := hc k hlt
                            replace c0 := cell_keep hbel c0
                            replace c1 := cell_keep hbel c1
                            have hon := fun h => firstE_on (f := ruleE ⟨hd, ga, av, rs, os⟩) hlt h
                            have hat := fun h => firstE_at (f := ruleE ⟨hd, ga, av, rs, os⟩) hlt h
                            obtain ⟨r, er⟩ : ∃ r, rs[k] = r := ⟨_, rfl⟩
                            rw [er] at c0 c1 hra hrc hma hmc hon hat
                            obtain ⟨z, ez⟩ : ∃ z, ruleE ⟨hd, ga, av, rs, os⟩ r = z := ⟨_, rfl⟩
                            rw [ez] at hon hat
                            have CZ := fun W h1 h3 h4 => hid (CR r TA TC ca cc W h1 (by omega) h3 h4 hma hmc z HAG.out ez).out
                            have Hon := hid hon
                            have Hat := hid hat
                            have HRA := hid hra
                            have HRC := hid hrc
                            obtain ⟨na, ena⟩ : ∃ n, r.atoms.length = n := ⟨_, rfl⟩
                            obtain ⟨nc, enc⟩ : ∃ n, r.conds.length = n := ⟨_, rfl⟩
                            rw [ena] at c0 CZ
                            rw [enc] at c1 CZ
                            clear hc er ez hon hat hra hrc hma hmc ena enc
                            go_wp2
                            go_still_tail 6, (by kernel_rfl)
                            change wpList _ _ _ _ _ wr.drew
                            have hdr : Below w.heap.size w wr.drew := hbel.trans ((Below.refl _ wr).drew.mono hbel.size)
                            have HB4 := hid (show Below (w.heap.size + 1) _ wr.drew from HB.out.drew)
                            have HHN := hid (HHd.out.below hdr)
                            have HRA2 := hid (HRA.out.below hdr)
                            have HRC2 := hid (HRC.out.below hdr)
                            have hszd : w.heap.size + 1 ≤ wr.drew.heap.size := by show w.heap.size + 1 ≤ wr.heap.size; omega
                            clear q0 q1 q2 q3 q4 qlt hbel c0 c1 HB hdr HRA HRC
                            generalize wr.drew = wd at *
                            go_wp2_with fail
                            refine (CZ _ HHN.out HRA2.out HRC2.out).out.mono ?_
                            rintro e w2 ⟨rfl, b2⟩
                            have HB5 := hid (HB4.out.trans (b2.mono hszd))
                            clear CZ HHN HRA2 HRC2 HB4 b2 hszd
                            by_cases hz : z = 0
                            · have HN : Hid (firstE (ruleE ⟨hd, ga, av, rs, os⟩) (rs.drop (k + 1)) = y3) := hid ((Hon.out hz).symm.trans HK.out)
                              have bz0 : (z != 0) = false := by simpa using hz
                              subst hz
                              clear Hon Hat HK
                              go_wp2
                              go_roundw
                              case rel => exact ⟨k + 1, by omega, by go_num, HN, HB5⟩
                              case measure => simp [intOf]; omega
                            · have hy3 : z = y3 := (Hat.out hz).symm.trans HK.out
                              have hx := HX4.out
                              rw [← hy3, if_pos hz] at hx
                              subst hx
                              have bz1 : (z != 0) = true := by simpa using hz
                              have hb4 := (qry_cells HB5.out).2.2.2.2.2.2
                              clear Hon Hat HK HX4 hy3 hz HB5
                              go_wp2
                              go_ret
                              exact ⟨rfl, hb4⟩
                          · have hy3 : 0 = y3 := (firstE_end hlt).symm.trans HK.out
                            have HX5 : Hid (y4 = x) := hid (by have h := HX4.out; rw [← hy3, if_neg (by decide)] at h; exact h)
                            have HG0 : Hid (orderGo hd (keysV (os.take 0)) (os.drop 0) = y4) := hid E4.out
                            have HO0 : Hid (wr.ownsRow (w.heap.size + 1) 9 1 (.slice none 0 0) (keysV (os.take 0)).length ((keysV (os.take 0)).map nmV)) := hid (World.ownsRow_nil _ _ _ _)
                            have HS0 : Hid ((keysV (os.take 0)).Nodup ∧ ∀ x ∈ keysV (os.take 0), x ∈ hd) := hid ⟨by simp [keysV], by simp [keysV]⟩
                            clear HX4 HK hy3 CR HAG
                            go_wp2
                            go_loopw [7, 6] (fun i u wr => ∃ (k : Nat) (AO : Option Addr) (cO : Nat), k ≤ os.length ∧ i = .int .i64 k ∧ u = .slice AO (keysV (os.take k)).length cO ∧ Hid (wr.ownsRow (w.heap.size + 1) 9 1 (.slice AO (keysV (os.take k)).length cO) (keysV (os.take k)).length ((keysV (os.take k)).map nmV)) ∧ Hid ((keysV (os.take k)).Nodup ∧ ∀ x ∈ keysV (os.take k), x ∈ hd) ∧ Hid (orderGo hd (keysV (os.take k)) (os.drop k) = y4) ∧ Hid (Below (w.heap.size + 1) (w.alloc (.cells #[.slice A hd.length ch, .int .i64 ga, .string Y, .slice R rs.length cr, .slice O os.length co] 26)) wr)) (fun i _ _ => os.length - (intOf i).toNat)
                            case atStart => exact ⟨0, none, 0, by omega, rfl, rfl, HO0, HS0, HG0, HB⟩
                            case round =>
                              clear HO0 HS0 HG0 HB q0 q1 q2 q3 q4 qlt hbel
                              obtain ⟨k, AO, cO, hk, rfl, rfl, HO, HS, HK, HB⟩ := hrel
                              obtain ⟨q0, q1, q2, q3, q4, qlt, hbel⟩ := qry_cells HB.out
                              have hks := nodup_le19 HS.out.1 HS.out.2
                              by_cases hlt : k < os.length
                              · obtain ⟨bb, o, rfl, hc⟩ := HOr.out (by omega)
                                have c0 := cell_keep hbel (hc k hlt).1
                                have hon := fun h1 h2 => orderGo_on (hd := hd) hlt h1 h2
                                have hnm := fun h1 => orderGo_name (hd := hd) hlt h1
                                have htw := fun h1 h2 => orderGo_twice (hd := hd) hlt h1 h2
                                have hsu := keysV_succ hlt
                                obtain ⟨⟨v, kd⟩, ev⟩ : ∃ v, os[k] = v := ⟨_, rfl⟩
                                rw [ev] at c0 hon hnm htw hsu
                                simp only at c0 hon hnm htw hsu
                                obtain ⟨KS, eks⟩ : ∃ l, keysV (os.take k) = l := ⟨_, rfl⟩
                                rw [eks] at HO HS HK hks hon hnm htw hsu
                                obtain ⟨Z, hZ, hZd⟩ : ∃ Y : ByteArray, (⟨v.toArray⟩ : ByteArray) = Y ∧ Y.data.toList = v := ⟨_, rfl, rfl⟩
                                rw [hZ] at c0
                                have HZv : Hid (nmV v = .string Z) := hid (by rw [← hZ]; rfl)
                                obtain ⟨i1, hi1⟩ : ∃ i, idxL hd Z.data.toList = i := ⟨_, rfl⟩
                                have hin1 := idxL_in hd Z.data.toList
                                rw [hi1, hZd] at hin1
                                obtain ⟨i2, hi2⟩ : ∃ i, idxL KS Z.data.toList = i := ⟨_, rfl⟩
                                have hin2 := idxL_in KS Z.data.toList
                                rw [hi2, hZd] at hin2
                                have C1 := fun W h => hid (ref_index A ch hd Z W h mh hi1)
                                have C2 := fun W h => hid (ref_index AO cO KS Z W h (by omega) hi2)
                                have HHN := hid (HHd.out.below hbel)
                                obtain ⟨_, _, hu, hAK, _⟩ := own_names HO.out
                                injection hu with g1 _ g3
                                subst g1 g3
                                have HKN := hid hAK
                                have hlen : (keysV (os.take k)).length = KS.length := by rw [eks]
                                rw [hlen] at *
                                by_cases hm1 : v ∈ hd
                                · have hj1 : 0 ≤ i1 := hin1.1.2 hm1
                                  by_cases hm2 : v ∈ KS
                                  · have hj2 : 0 ≤ i2 := hin2.1.2 hm2
                                    have hxx : 8 = x := (htw hm1 hm2).symm.trans (HK.out.trans HX5.out)
                                    subst hxx
                                    clear hc ev hon hnm htw hsu hZ hZd HK HX5 hin1 hin2 hi1 hi2 hm1 hm2 eks hlen hAK
                                    go_wp2_with fail
                                    refine (C1 _ HHN.out).out.mono ?_
                                    rintro e w2 ⟨rfl, rfl⟩
                                    clear C1
                                    go_wp2_with fail
                                    refine (C2 _ HKN.out).out.mono ?_
                                    rintro e w2 ⟨rfl, rfl⟩
                                    clear C2
                                    go_wp2
                                    go_ret
                                    exact ⟨rfl, hbel⟩
                                  · have hj2 : i2 < 0 := by
                                      apply Classical.byContradiction
                                      intro h
                                      exact hm2 (hin2.1.1 (by omega))
                                    have HN : Hid (orderGo hd (keysV (os.take (k + 1))) (os.drop (k + 1)) = y4) := hid ((hon hm1 hm2).symm.trans HK.out)
                                    have HS2 : Hid ((keysV (os.take (k + 1))).Nodup ∧ ∀ x ∈ keysV (os.take (k + 1)), x ∈ hd) := hid (by
                                      rw [hsu]
                                      refine ⟨?_, fun x hx => ?_⟩
                                      · rw [List.nodup_append]
                                        refine ⟨HS.out.1, by simp, fun a ha b hb e => ?_⟩
                                        rw [List.mem_singleton] at hb
                                        subst hb e
                                        exact hm2 ha
                                      · rcases List.mem_append.1 hx with h | h
                                        · exact HS.out.2 x h
                                        · rw [List.mem_singleton.1 h]; exact hm1)
                                    have Hsu := hid hsu
                                    clear hc ev hon hnm htw hsu hZ hZd HK hin1 hin2 hi1 hi2 hm1 hm2 hlen hAK HS
                                    go_wp2_with fail
                                    refine (C1 _ HHN.out).out.mono ?_
                                    rintro e w2 ⟨rfl, rfl⟩
                                    clear C1
                                    go_wp2_with fail
                                    refine (C2 _ HKN.out).out.mono ?_
                                    rintro e w2 ⟨rfl, rfl⟩
                                    clear C2 HHN HKN
                                    go_wp2_with (at_builtin; refine wpList_append_new2 Tryd.underlying22 hi hz0 hz1 hz2 rfl (by decide) (by decide) rfl rfl rfl HO.out rfl (by simp) rfl rfl (by omega) (by omega) ?_; intro v3 w3 hown3 hg3; obtain ⟨g3, cap3, rfl⟩ := own_slice1 hown3)
                                    have HB3 := hid (HB.out.trans (grown_below HO.out hg3 (by omega)))
                                    have hsl : (keysV (os.take (k + 1))).length = KS.length + 1 := by rw [Hsu.out]; simp
                                    have HO3 : Hid (w3.ownsRow (w.heap.size + 1) 9 1 (.slice (some ⟨g3, 0, none⟩) (keysV (os.take (k + 1))).length cap3) (keysV (os.take (k + 1))).length ((keysV (os.take (k + 1))).map nmV)) := hid (by
                                      rw [hsl, Hsu.out, List.map_append, List.map_singleton, HZv.out]
                                      exact hown3)
                                    rw [← hsl]
                                    clear HO HB hown3 hg3 q0 q1 q2 q3 q4 qlt hbel hsl
                                    go_roundw
                                    case rel => exact ⟨k + 1, _, _, by omega, by go_num, rfl, HO3, HS2, HN, HB3⟩
                                    case measure => simp [intOf]; omega
                                · have hj1 : i1 < 0 := by
                                    apply Classical.byContradiction
                                    intro h
                                    exact hm1 (hin1.1.1 (by omega))
                                  have hxx : 7 = x := (hnm hm1).symm.trans (HK.out.trans HX5.out)
                                  subst hxx
                                  clear hc ev hon hnm htw hsu hZ hZd HK HX5 hin1 hin2 hi1 hi2 hm1 eks hlen hAK C2
                                  go_wp2_with fail
                                  refine (C1 _ HHN.out).out.mono ?_
                                  rintro e w2 ⟨rfl, rfl⟩
                                  clear C1
                                  go_wp2
                                  go_ret
                                  exact ⟨rfl, hbel⟩
                              · have hxx : 0 = x := (orderGo_end hlt).symm.trans (HK.out.trans HX5.out)
                                subst hxx
                                clear HK HX5 HO HS
                                go_wp2
                                go_ret
                                exact ⟨rfl, hbel⟩
                      · have hze : Y.toList.isEmpty = false := by
                          rw [HYl.out]
                          cases h : av with
                          | nil => exact absurd h hv
                          | cons _ _ => rfl
                        have hy2 : y2 = 1 := by rw [← E2.out]; unfold aggE; rw [if_pos (by simp only; omega), if_neg hv]
                        have hx := HX3.out
                        rw [hy2, if_pos (by decide)] at hx
                        subst hx
                        clear HX3 hy2 CR HB hv
                        go_wp2
                        go_ret
                        exact ⟨rfl, hbel⟩
                    · obtain ⟨yn, hyn⟩ : ∃ y, nameB Y.data.toList = y := ⟨_, rfl⟩
                      have H2 := fun W => hid (ref_name Y W hyn)
                      rw [HYd.out] at hyn
                      go_wp2_with fail
                      refine (H2 _).out.mono ?_
                      rintro e w1 ⟨rfl, b1⟩
                      have HBX := hid (HB.out.trans (b1.mono (by omega)))
                      clear H2 b1 HB q0 q1 q2 q3 q4 qlt hbel
                      obtain ⟨q0, q1, q2, q3, q4, qlt, hbel⟩ := qry_cells HBX.out
                      cases yn
                      · have hy2 : y2 = 7 := by rw [← E2.out]; unfold aggE; rw [if_neg (by simp only; omega), if_pos (by simp only; omega), if_neg (by rw [hyn]; decide)]
                        have hx := HX3.out
                        rw [hy2, if_pos (by decide)] at hx
                        subst hx
                        clear HX3 hy2 CR HBX hyn
                        go_wp2
                        go_ret
                        exact ⟨rfl, hbel⟩
                      · have hy2 : y2 = 0 := by rw [← E2.out]; unfold aggE; rw [if_neg (by simp only; omega), if_pos (by simp only; omega), if_pos hyn]
                        clear hyn
                        have HX4 : Hid ((if y3 ≠ 0 then y3 else y4) = x) := hid (by have h := HX3.out; rw [hy2, if_neg (by decide)] at h; exact h)
                        have HAG : Hid (aggE ⟨hd, ga, av, rs, os⟩ = 0) := hid (E2.out.trans hy2)
                        clear HX3 E2 hy2
                        go_wp2
                        go_loopw [4] (fun i wr => ∃ k : Nat, k ≤ rs.length ∧ i = .int .i64 k ∧ Hid (firstE (ruleE ⟨hd, ga, av, rs, os⟩) (rs.drop k) = y3) ∧ Hid (Below (w.heap.size + 1) (w.alloc (.cells #[.slice A hd.length ch, .int .i64 ga, .string Y, .slice R rs.length cr, .slice O os.length co] 26)) wr)) (fun i _ => rs.length - (intOf i).toNat)
                        case atStart => exact ⟨0, by omega, rfl, hid E3.out, HBX⟩
                        case round =>
                          clear HBX q0 q1 q2 q3 q4 qlt hbel
                          obtain ⟨k, hk, rfl, HK, HB⟩ := hrel
                          obtain ⟨q0, q1, q2, q3, q4, qlt, hbel⟩ := qry_cells HB.out
                          by_cases hlt : k < rs.length
                          · obtain ⟨bb, o, rfl, hc⟩ := HRl.out (by omega)
                            obtain ⟨TA, ca, TC, cc, c0, c1, hra, hrc, _, _, hma, hmc⟩ := hc k hlt
                            replace c0 := cell_keep hbel c0
                            replace c1 := cell_keep hbel c1
                            have hon := fun h => firstE_on (f := ruleE ⟨hd, ga, av, rs, os⟩) hlt h
                            have hat := fun h => firstE_at (f := ruleE ⟨hd, ga, av, rs, os⟩) hlt h
                            obtain ⟨r, er⟩ : ∃ r, rs[k] = r := ⟨_, rfl⟩
                            rw [er] at c0 c1 hra hrc hma hmc hon hat
                            obtain ⟨z, ez⟩ : ∃ z, ruleE ⟨hd, ga, av, rs, os⟩ r = z := ⟨_, rfl⟩
                            rw [ez] at hon hat
                            have CZ := fun W h1 h3 h4 => hid (CR r TA TC ca cc W h1 (by omega) h3 h4 hma hmc z HAG.out ez).out
                            have Hon := hid hon
                            have Hat := hid hat
                            have HRA := hid hra
                            have HRC := hid hrc
                            obtain ⟨na, ena⟩ : ∃ n, r.atoms.length = n := ⟨_, rfl⟩
                            obtain ⟨nc, enc⟩ : ∃ n, r.conds.length = n := ⟨_, rfl⟩
                            rw [ena] at c0 CZ
                            rw [enc] at c1 CZ
                            clear hc er ez hon hat hra hrc hma hmc ena enc
                            go_wp2
                            go_still_tail 6, (by kernel_rfl)
                            change wpList _ _ _ _ _ wr.drew
                            have hdr : Below w.heap.size w wr.drew := hbel.trans ((Below.refl _ wr).drew.mono hbel.size)
                            have HB4 := hid (show Below (w.heap.size + 1) _ wr.drew from HB.out.drew)
                            have HHN := hid (HHd.out.below hdr)
                            have HRA2 := hid (HRA.out.below hdr)
                            have HRC2 := hid (HRC.out.below hdr)
                            have hszd : w.heap.size + 1 ≤ wr.drew.heap.size := by show w.heap.size + 1 ≤ wr.heap.size; omega
                            clear q0 q1 q2 q3 q4 qlt hbel c0 c1 HB hdr HRA HRC
                            generalize wr.drew = wd at *
                            go_wp2_with fail
                            refine (CZ _ HHN.out HRA2.out HRC2.out).out.mono ?_
                            rintro e w2 ⟨rfl, b2⟩
                            have HB5 := hid (HB4.out.trans (b2.mono hszd))
                            clear CZ HHN HRA2 HRC2 HB4 b2 hszd
                            by_cases hz : z = 0
                            · have HN : Hid (firstE (ruleE ⟨hd, ga, av, rs, os⟩) (rs.drop (k + 1)) = y3) := hid ((Hon.out hz).symm.trans HK.out)
                              have bz0 : (z != 0) = false := by simpa using hz
                              subst hz
                              clear Hon Hat HK
                              go_wp2
                              go_roundw
                              case rel => exact ⟨k + 1, by omega, by go_num, HN, HB5⟩
                              case measure => simp [intOf]; omega
                            · have hy3 : z = y3 := (Hat.out hz).symm.trans HK.out
                              have hx := HX4.out
                              rw [← hy3, if_pos hz] at hx
                              subst hx
                              have bz1 : (z != 0) = true := by simpa using hz
                              have hb4 := (qry_cells HB5.out).2.2.2.2.2.2
                              clear Hon Hat HK HX4 hy3 hz HB5
                              go_wp2
                              go_ret
                              exact ⟨rfl, hb4⟩
                          · have hy3 : 0 = y3 := (firstE_end hlt).symm.trans HK.out
                            have HX5 : Hid (y4 = x) := hid (by have h := HX4.out; rw [← hy3, if_neg (by decide)] at h; exact h)
                            have HG0 : Hid (orderGo hd (keysV (os.take 0)) (os.drop 0) = y4) := hid E4.out
                            have HO0 : Hid (wr.ownsRow (w.heap.size + 1) 9 1 (.slice none 0 0) (keysV (os.take 0)).length ((keysV (os.take 0)).map nmV)) := hid (World.ownsRow_nil _ _ _ _)
                            have HS0 : Hid ((keysV (os.take 0)).Nodup ∧ ∀ x ∈ keysV (os.take 0), x ∈ hd) := hid ⟨by simp [keysV], by simp [keysV]⟩
                            clear HX4 HK hy3 CR HAG
                            go_wp2
                            go_loopw [7, 6] (fun i u wr => ∃ (k : Nat) (AO : Option Addr) (cO : Nat), k ≤ os.length ∧ i = .int .i64 k ∧ u = .slice AO (keysV (os.take k)).length cO ∧ Hid (wr.ownsRow (w.heap.size + 1) 9 1 (.slice AO (keysV (os.take k)).length cO) (keysV (os.take k)).length ((keysV (os.take k)).map nmV)) ∧ Hid ((keysV (os.take k)).Nodup ∧ ∀ x ∈ keysV (os.take k), x ∈ hd) ∧ Hid (orderGo hd (keysV (os.take k)) (os.drop k) = y4) ∧ Hid (Below (w.heap.size + 1) (w.alloc (.cells #[.slice A hd.length ch, .int .i64 ga, .string Y, .slice R rs.length cr, .slice O os.length co] 26)) wr)) (fun i _ _ => os.length - (intOf i).toNat)
                            case atStart => exact ⟨0, none, 0, by omega, rfl, rfl, HO0, HS0, HG0, HB⟩
                            case round =>
                              clear HO0 HS0 HG0 HB q0 q1 q2 q3 q4 qlt hbel
                              obtain ⟨k, AO, cO, hk, rfl, rfl, HO, HS, HK, HB⟩ := hrel
                              obtain ⟨q0, q1, q2, q3, q4, qlt, hbel⟩ := qry_cells HB.out
                              have hks := nodup_le19 HS.out.1 HS.out.2
                              by_cases hlt : k < os.length
                              · obtain ⟨bb, o, rfl, hc⟩ := HOr.out (by omega)
                                have c0 := cell_keep hbel (hc k hlt).1
                                have hon := fun h1 h2 => orderGo_on (hd := hd) hlt h1 h2
                                have hnm := fun h1 => orderGo_name (hd := hd) hlt h1
                                have htw := fun h1 h2 => orderGo_twice (hd := hd) hlt h1 h2
                                have hsu := keysV_succ hlt
                                obtain ⟨⟨v, kd⟩, ev⟩ : ∃ v, os[k] = v := ⟨_, rfl⟩
                                rw [ev] at c0 hon hnm htw hsu
                                simp only at c0 hon hnm htw hsu
                                obtain ⟨KS, eks⟩ : ∃ l, keysV (os.take k) = l := ⟨_, rfl⟩
                                rw [eks] at HO HS HK hks hon hnm htw hsu
                                obtain ⟨Z, hZ, hZd⟩ : ∃ Y : ByteArray, (⟨v.toArray⟩ : ByteArray) = Y ∧ Y.data.toList = v := ⟨_, rfl, rfl⟩
                                rw [hZ] at c0
                                have HZv : Hid (nmV v = .string Z) := hid (by rw [← hZ]; rfl)
                                obtain ⟨i1, hi1⟩ : ∃ i, idxL hd Z.data.toList = i := ⟨_, rfl⟩
                                have hin1 := idxL_in hd Z.data.toList
                                rw [hi1, hZd] at hin1
                                obtain ⟨i2, hi2⟩ : ∃ i, idxL KS Z.data.toList = i := ⟨_, rfl⟩
                                have hin2 := idxL_in KS Z.data.toList
                                rw [hi2, hZd] at hin2
                                have C1 := fun W h => hid (ref_index A ch hd Z W h mh hi1)
                                have C2 := fun W h => hid (ref_index AO cO KS Z W h (by omega) hi2)
                                have HHN := hid (HHd.out.below hbel)
                                obtain ⟨_, _, hu, hAK, _⟩ := own_names HO.out
                                injection hu with g1 _ g3
                                subst g1 g3
                                have HKN := hid hAK
                                have hlen : (keysV (os.take k)).length = KS.length := by rw [eks]
                                rw [hlen] at *
                                by_cases hm1 : v ∈ hd
                                · have hj1 : 0 ≤ i1 := hin1.1.2 hm1
                                  by_cases hm2 : v ∈ KS
                                  · have hj2 : 0 ≤ i2 := hin2.1.2 hm2
                                    have hxx : 8 = x := (htw hm1 hm2).symm.trans (HK.out.trans HX5.out)
                                    subst hxx
                                    clear hc ev hon hnm htw hsu hZ hZd HK HX5 hin1 hin2 hi1 hi2 hm1 hm2 eks hlen hAK
                                    go_wp2_with fail
                                    refine (C1 _ HHN.out).out.mono ?_
                                    rintro e w2 ⟨rfl, rfl⟩
                                    clear C1
                                    go_wp2_with fail
                                    refine (C2 _ HKN.out).out.mono ?_
                                    rintro e w2 ⟨rfl, rfl⟩
                                    clear C2
                                    go_wp2
                                    go_ret
                                    exact ⟨rfl, hbel⟩
                                  · have hj2 : i2 < 0 := by
                                      apply Classical.byContradiction
                                      intro h
                                      exact hm2 (hin2.1.1 (by omega))
                                    have HN : Hid (orderGo hd (keysV (os.take (k + 1))) (os.drop (k + 1)) = y4) := hid ((hon hm1 hm2).symm.trans HK.out)
                                    have HS2 : Hid ((keysV (os.take (k + 1))).Nodup ∧ ∀ x ∈ keysV (os.take (k + 1)), x ∈ hd) := hid (by
                                      rw [hsu]
                                      refine ⟨?_, fun x hx => ?_⟩
                                      · rw [List.nodup_append]
                                        refine ⟨HS.out.1, by simp, fun a ha b hb e => ?_⟩
                                        rw [List.mem_singleton] at hb
                                        subst hb e
                                        exact hm2 ha
                                      · rcases List.mem_append.1 hx with h | h
                                        · exact HS.out.2 x h
                                        · rw [List.mem_singleton.1 h]; exact hm1)
                                    have Hsu := hid hsu
                                    clear hc ev hon hnm htw hsu hZ hZd HK hin1 hin2 hi1 hi2 hm1 hm2 hlen hAK HS
                                    go_wp2_with fail
                                    refine (C1 _ HHN.out).out.mono ?_
                                    rintro e w2 ⟨rfl, rfl⟩
                                    clear C1
                                    go_wp2_with fail
                                    refine (C2 _ HKN.out).out.mono ?_
                                    rintro e w2 ⟨rfl, rfl⟩
                                    clear C2 HHN HKN
                                    go_wp2_with (at_builtin; refine wpList_append_new2 Tryd.underlying22 hi hz0 hz1 hz2 rfl (by decide) (by decide) rfl rfl rfl HO.out rfl (by simp) rfl rfl (by omega) (by omega) ?_; intro v3 w3 hown3 hg3; obtain ⟨g3, cap3, rfl⟩ := own_slice1 hown3)
                                    have HB3 := hid (HB.out.trans (grown_below HO.out hg3 (by omega)))
                                    have hsl : (keysV (os.take (k + 1))).length = KS.length + 1 := by rw [Hsu.out]; simp
                                    have HO3 : Hid (w3.ownsRow (w.heap.size + 1) 9 1 (.slice (some ⟨g3, 0, none⟩) (keysV (os.take (k + 1))).length cap3) (keysV (os.take (k + 1))).length ((keysV (os.take (k + 1))).map nmV)) := hid (by
                                      rw [hsl, Hsu.out, List.map_append, List.map_singleton, HZv.out]
                                      exact hown3)
                                    rw [← hsl]
                                    clear HO HB hown3 hg3 q0 q1 q2 q3 q4 qlt hbel hsl
                                    go_roundw
                                    case rel => exact ⟨k + 1, _, _, by omega, by go_num, rfl, HO3, HS2, HN, HB3⟩
                                    case measure => simp [intOf]; omega
                                · have hj1 : i1 < 0 := by
                                    apply Classical.byContradiction
                                    intro h
                                    exact hm1 (hin1.1.1 (by omega))
                                  have hxx : 7 = x := (hnm hm1).symm.trans (HK.out.trans HX5.out)
                                  subst hxx
                                  clear hc ev hon hnm htw hsu hZ hZd HK HX5 hin1 hin2 hi1 hi2 hm1 eks hlen hAK C2
                                  go_wp2_with fail
                                  refine (C1 _ HHN.out).out.mono ?_
                                  rintro e w2 ⟨rfl, rfl⟩
                                  clear C1
                                  go_wp2
                                  go_ret
                                  exact ⟨rfl, hbel⟩
                              · have hxx : 0 = x := (orderGo_end hlt).symm.trans (HK.out.trans HX5.out)
                                subst hxx
                                clear HK HX5 HO HS
                                go_wp2
                                go_ret
                                exact ⟨rfl, hbel⟩
end Go.Proofs.YtgeapgbebbapmaaDoor
