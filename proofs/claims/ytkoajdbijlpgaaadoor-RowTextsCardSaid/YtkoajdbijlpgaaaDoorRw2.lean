/-
  WALK: the document's Split (layer 2).
-/
import Derived.Test.YtkoajdbijlpgaaaDoorRowP
import Derived.Test.YtkoajdbijlpgaaaDoorRt3
import Derived.Test.YtkoajdbijlpgaaaDoorKit2
import Derived.StillTailTactics
import Derived.IntWalk
namespace Go.Proofs.YtkoajdbijlpgaaaDoor
open Go.RowKit

def strV' (x : List UInt8) : Value := .string ⟨x.toArray⟩
theorem infoStr : (Tryd.prog.info? 9).map (fun i => (i.zero, i.size, i.bytes)) = some (some (.string ⟨#[]⟩), 1, 16) := by kernel_rfl
/-- A call that returns strings of its own. -/
def RetStrs (w : World) (X : List (List UInt8)) (e : Ending) (w' : World) : Prop :=
  ∃ v, e = .returned v ∧ w'.ownsRow w.heap.size 9 1 v X.length (X.map strV') ∧ Below w.heap.size w w'

theorem own_one (w : World) (x : List UInt8) : (w.alloc (.cells #[strV' x] 9)).ownsRow w.heap.size 9 1 (.slice (some ⟨w.heap.size, 0, none⟩) 1 1) 1 [strV' x] :=
  ⟨rfl, .inr ⟨w.heap.size, 1, #[strV' x], rfl, Nat.le_refl _, heap_alloc_new w _, Nat.le_refl _, by unfold maxLen; omega, rfl, rfl⟩⟩
theorem set_last (ps : List (List UInt8)) (cur y : List UInt8) : ((ps ++ [cur]).map strV').set ps.length (strV' y) = (ps ++ [y]).map strV' := by
  rw [List.map_append, List.set_append_right _ _ (by simp)]
  simp
theorem own_snoc {w : World} {B : Nat} {v : Value} {ps : List (List UInt8)} {cur : List UInt8} (h : w.ownsRow B 9 1 v (ps.length + 1 + 1) ((ps ++ [cur]).map strV' ++ [.string ⟨#[]⟩])) : w.ownsRow B 9 1 v ((ps ++ [cur]).length + 1) ((ps ++ [cur] ++ [[]]).map strV') := by
  have e : (ps ++ [cur]).map strV' ++ [.string ⟨#[]⟩] = (ps ++ [cur] ++ [[]]).map strV' := by
    simp [strV']
  rw [← e]
  simpa using h
theorem own_slice {w : World} {B : Nat} {e : TypeId} {v : Value} {n size : Nat} {xs : List Value} (h : w.ownsRow B e size v (n + 1) xs) : ∃ g cap, v = .slice (some ⟨g, 0, none⟩) (n + 1) cap ∧ B ≤ g ∧ n + 1 ≤ cap := by
  rcases h.2 with ⟨_, h0⟩ | ⟨g, cap, cur, hv, hB, hh, hn, hm, hcs, ht⟩
  · omega
  · exact ⟨g, cap, hv, hB, hn⟩

theorem split_comma {l : List UInt8} {k : Nat} (h : k + 1 < l.length) (h1 : l[k] = 44) (h2 : l[k + 1] = 32) (e : Bool) (cur : List UInt8) : splitGo false e cur (l.drop k) = cur :: splitGo false e [] (l.drop (k + 2)) := by
  have hr : l.drop (k + 1) ≠ [] := by
    intro e
    have := congrArg List.length e
    simp at this; omega
  have hg : (l.drop (k + 1)).getD 0 0 = 32 := by
    rw [List.getD_eq_getElem?_getD, List.getElem?_drop, Nat.add_zero, List.getElem?_eq_getElem h]; exact h2
  have hd : l.drop k = l[k] :: l.drop (k + 1) := List.drop_eq_getElem_cons (by omega)
  rw [hd, splitGo, if_pos ⟨rfl, h1, hg, hr⟩, List.drop_drop]
theorem split_on {l : List UInt8} {k : Nat} (h : k < l.length) (q e : Bool) (cur : List UInt8) (hn : ¬ (q = false ∧ l[k] = 44 ∧ ∃ h2 : k + 1 < l.length, l[k + 1] = 32)) :
    splitGo q e cur (l.drop k) = splitGo (if l[k] = 34 ∧ e = false then !q else q) ((if l[k] = 34 ∧ e = false then !q else q) && (l[k] == 92 && !e)) (cur ++ [l[k]]) (l.drop (k + 1)) := by
  rw [List.drop_eq_getElem_cons h, splitGo, if_neg]
  rintro ⟨a, b, c, d⟩
  have h2 : k + 1 < l.length := by
    apply Classical.byContradiction
    intro hh
    exact d (List.drop_eq_nil_of_le (by omega))
  rw [List.drop_eq_getElem_cons h2] at c
  exact hn ⟨a, b, h2, c⟩
theorem split_on' {l : List UInt8} {k : Nat} (h : k < l.length) {c : UInt8} (hc : l[k] = c) (q e : Bool) (cur : List UInt8) (hn : ¬ (q = false ∧ c = 44 ∧ ∃ h2 : k + 1 < l.length, l[k + 1] = 32)) :
    splitGo q e cur (l.drop k) = splitGo (if c = 34 ∧ e = false then !q else q) ((if c = 34 ∧ e = false then !q else q) && (c == 92 && !e)) (cur ++ [c]) (l.drop (k + 1)) := by
  subst hc
  exact split_on h q e cur hn
theorem cat_one {s : ByteArray} {k : Nat} (h' : k < s.data.toList.length) {c : UInt8} (hc : s.data.toList[k] = c) (cur : List UInt8) : (⟨cur.toArray⟩ : ByteArray) ++ s.extract k (k + 1) = ⟨(cur ++ [c]).toArray⟩ := by
  subst hc
  refine ByteArray.ext (Array.toList_inj.1 ?_)
  simp only [ByteArray.data_append, Array.toList_append, ByteArray.data_extract, Array.toList_extract, List.extract]
  congr 1
  rw [show k + 1 - k = 1 by omega, List.drop_eq_getElem_cons h']; rfl

set_option maxRecDepth 100000 in
set_option maxHeartbeats 2000000 in
theorem ref_split (s : ByteArray) (w : World) (hs : s.size ≤ 100000) {X : List (List UInt8)} (hx : splitGo false false [] s.data.toList = X) :
    Calls Tryd.prog 84 #[.string s] w (RetStrs w X) := by
  obtain ⟨i0, hi, hz0, hz1, hz2⟩ := info_parts infoStr
  have hll : s.data.toList.length = s.size := by simp
  have HX : Hid ([] ++ splitGo false false [] (s.data.toList.drop 0) = X) := hid hx
  have hown0 := own_one w []
  have k0 := below_one w (.cells #[strV' []] 9)
  clear hx
  go_enter Tryd.func84, Tryd.ntmps84
  go_wp2
  go_loopw [3, 4, 5, 6] (fun v q e i wr => ∃ (k g cap : Nat) (qb eb : Bool) (ps : List (List UInt8)) (cur : List UInt8), k ≤ s.size ∧ i = .int .i64 k ∧ q = .bool qb ∧ e = .bool eb ∧ v = .slice (some ⟨g, 0, none⟩) (ps.length + 1) cap ∧ wr.ownsRow w.heap.size 9 1 (.slice (some ⟨g, 0, none⟩) (ps.length + 1) cap) (ps.length + 1) ((ps ++ [cur]).map strV') ∧ ps.length ≤ k ∧ cur.length ≤ k ∧ Hid (ps ++ splitGo qb eb cur (s.data.toList.drop k) = X) ∧ Below w.heap.size w wr) (fun _ _ _ i _ => s.size - (intOf i).toNat)
  case atStart => exact ⟨0, w.heap.size, 1, false, false, [], [], by omega, rfl, rfl, rfl, rfl, hown0, by simp, by simp, HX, k0⟩
  case round =>
    obtain ⟨k, g, cap, qb, eb, ps, cur, hk, rfl, rfl, rfl, rfl, hown, hpl, hcl, HK, hbel⟩ := hrel
    clear HX hown0 k0
    by_cases hlt : k < s.size
    · have hlt' : k < s.data.toList.length := by omega
      have eL : ((ps.length : Int) + 1 - 1).toNat = ps.length := by omega
      have hA : (k : Int) + 1 ≤ s.size := by omega
      have hB : (k : Int) ≤ (k : Int) + 1 := by omega
      have eN : ((k : Int) + 1).toNat = k + 1 := by omega
      have c0 : wr.cell? ⟨g, ps.length, none⟩ = some (.string ⟨cur.toArray⟩) := by
        rw [hown.cellAt ps.length (by simp)]
        rw [List.getElem?_map, List.getElem?_append_right (Nat.le_refl _)]; simp [strV']
      obtain ⟨CU, hCU⟩ : ∃ CU : ByteArray, CU = ⟨cur.toArray⟩ := ⟨_, rfl⟩
      have hCs : CU.size ≤ 100000 := by rw [hCU]; simp [ByteArray.size]; omega
      rw [← hCU] at c0
      have HCU := hid hCU
      obtain ⟨c, hc⟩ : ∃ c, s.data.toList[k] = c := ⟨_, rfl⟩
      have hc' : s[k] = c := hc
      have hcat := cat_one hlt' hc cur
      have W1 : IntKind.i64.wrap ((ps.length : Int) + 1 - 1) = ps.length := by rw [IntWalk.i64_in _ (by omega)]; omega
      have W3 : IntKind.i64.wrap (ps.length : Int) = ps.length := IntWalk.i64_in _ (by omega)
      have WS : ¬ 9223372036854775807 < CU.size + (min (k + 1) s.size - k) := by omega
      have W4 : (0 : Int) ≤ ps.length := by omega
      have W5 : (ps.length : Int) < (ps.length : Int) + 1 := by omega
      have W2 : IntKind.i64.wrap ((k : Int) + 1) = k + 1 := IntWalk.i64_in _ (by omega)
      rw [← hCU] at hcat
      have HCAT := hid hcat
      have hcp : ps.length + 1 ≤ cap := by
        obtain ⟨g', cap', e1, _, e2⟩ := own_slice hown
        injection e1 with _ _ e3
        omega
      clear hCU hcat
      have hways : (qb = false ∧ c = 44 ∧ ∃ h2 : k + 1 < s.data.toList.length, s.data.toList[k + 1] = 32) ∨ ¬ (qb = false ∧ c = 44 ∧ ∃ h2 : k + 1 < s.data.toList.length, s.data.toList[k + 1] = 32) := Classical.em _
      rcases hways with ⟨hq, h44, h2, h32⟩ | hn
      · subst hq
        have h2' : k + 1 < s.size := by omega
        have HN : Hid ((ps ++ [cur]) ++ splitGo false eb [] (s.data.toList.drop (k + 2)) = X) := hid (by rw [← HK.out, split_comma h2 (hc.trans h44) h32]; simp)
        have h44' : s[k] = 44 := hc.trans h44
        have h32' : s[k + 1] = 32 := h32
        have b44 : ((s[k].toNat : Int) == 44) = true := by rw [h44']; rfl
        have b32 : ((s[k + 1].toNat : Int) == 32) = true := by rw [h32']; rfl
        have hl2 : (k : Int) + 1 < s.size := by omega
        clear HK h44 h32 h44' h32' h2 c0 HCU HCAT hcp W1 W2 W3 hc hc'
        go_wp2_with (at_builtin; refine wpList_append_new Tryd.underlying95 hi hz0 hz1 hz2 rfl (by decide) (by decide) rfl rfl rfl hown rfl rfl rfl (by omega) hbel.size ?_; intro v2 w2 hown2 hg2; obtain ⟨g2, cap2, rfl, hg3, hg4⟩ := own_slice hown2)
        go_roundw
        case rel => exact ⟨k + 2, g2, cap2, false, eb, ps ++ [cur], [], by omega, by go_num, rfl, rfl, by simp, by simpa using own_snoc hown2, by simp; omega, by simp, HN, hbel.trans (grown_below hown hg2 hbel.size)⟩
        case measure => simp [intOf]; omega
      · cases qb
        · by_cases h44 : c = 44
          · have h44' : s[k] = 44 := hc.trans h44
            have b44 : ((s[k].toNat : Int) == 44) = true := by rw [h44']; rfl
            have b34 : ((s[k].toNat : Int) == 34) = false := by rw [h44']; rfl
            have b92 : ((s[k].toNat : Int) == 92) = false := by rw [h44']; rfl
            have c34 : c ≠ 34 := by rw [h44]; decide
            have c92 : c ≠ 92 := by rw [h44]; decide
            by_cases h2 : k + 1 < s.size
            · have h32 : s[k + 1].toNat ≠ 32 := fun e => hn ⟨rfl, h44, by omega, UInt8.toNat.inj e⟩
              have b32 : ((s[k + 1].toNat : Int) == 32) = false := by rw [beq_eq_false_iff_ne]; omega
              have hl2 : (k : Int) + 1 < s.size := by omega
              clear h44 h44' h32
              cases eb
              · have HN : Hid (ps ++ splitGo false false (cur ++ [c]) (s.data.toList.drop (k + 1)) = X) := hid (by rw [← HK.out, split_on' hlt' hc _ _ _ hn]; simp [c34])
                clear HK hn c34 c92 hc hc'
                go_wp2_with fail
                go_still_tail 17, (by kernel_rfl)
                change wpList _ _ _ _ _ wr.drew
                have hown5 := hown.drew
                have hbel5 := hbel.drew
                have c5 : wr.drew.cell? ⟨g, ps.length, none⟩ = some (.string CU) := c0
                have hfz := hown5.frozenAt ps.length
                generalize wr.drew = w5 at *
                have hst := hown5.stored ps.length (strV' (cur ++ [c]))
                rw [set_last] at hst
                have HST := hid hst
                clear hst hown c0
                go_wp2_with fail
                go_roundw
                case rel => exact ⟨k + 1, g, cap, false, false, ps, cur ++ [c], by omega, by go_num, rfl, rfl, rfl, by rw [HCAT.out]; exact HST.out.1, by omega, by simp; omega, HN, by rw [HCAT.out]; exact hbel5.grown HST.out.2 hbel5.size (fun b hb => (hown5.lt b hb).1)⟩
                case measure => simp [intOf]; omega
              · have HN : Hid (ps ++ splitGo false false (cur ++ [c]) (s.data.toList.drop (k + 1)) = X) := hid (by rw [← HK.out, split_on' hlt' hc _ _ _ hn]; simp [c34])
                clear HK hn c34 c92 hc hc'
                go_wp2_with fail
                go_still_tail 17, (by kernel_rfl)
                change wpList _ _ _ _ _ wr.drew
                have hown5 := hown.drew
                have hbel5 := hbel.drew
                have c5 : wr.drew.cell? ⟨g, ps.length, none⟩ = some (.string CU) := c0
                have hfz := hown5.frozenAt ps.length
                generalize wr.drew = w5 at *
                have hst := hown5.stored ps.length (strV' (cur ++ [c]))
                rw [set_last] at hst
                have HST := hid hst
                clear hst hown c0
                go_wp2_with fail
                go_roundw
                case rel => exact ⟨k + 1, g, cap, false, false, ps, cur ++ [c], by omega, by go_num, rfl, rfl, rfl, by rw [HCAT.out]; exact HST.out.1, by omega, by simp; omega, HN, by rw [HCAT.out]; exact hbel5.grown HST.out.2 hbel5.size (fun b hb => (hown5.lt b hb).1)⟩
                case measure => simp [intOf]; omega
            · clear h44 h44'
              cases eb
              · have HN : Hid (ps ++ splitGo false false (cur ++ [c]) (s.data.toList.drop (k + 1)) = X) := hid (by rw [← HK.out, split_on' hlt' hc _ _ _ hn]; simp [c34])
                clear HK hn c34 c92 hc hc'
                go_wp2_with fail
                go_still_tail 17, (by kernel_rfl)
                change wpList _ _ _ _ _ wr.drew
                have hown5 := hown.drew
                have hbel5 := hbel.drew
                have c5 : wr.drew.cell? ⟨g, ps.length, none⟩ = some (.string CU) := c0
                have hfz := hown5.frozenAt ps.length
                generalize wr.drew = w5 at *
                have hst := hown5.stored ps.length (strV' (cur ++ [c]))
                rw [set_last] at hst
                have HST := hid hst
                clear hst hown c0
                go_wp2_with fail
                go_roundw
                case rel => exact ⟨k + 1, g, cap, false, false, ps, cur ++ [c], by omega, by go_num, rfl, rfl, rfl, by rw [HCAT.out]; exact HST.out.1, by omega, by simp; omega, HN, by rw [HCAT.out]; exact hbel5.grown HST.out.2 hbel5.size (fun b hb => (hown5.lt b hb).1)⟩
                case measure => simp [intOf]; omega
              · have HN : Hid (ps ++ splitGo false false (cur ++ [c]) (s.data.toList.drop (k + 1)) = X) := hid (by rw [← HK.out, split_on' hlt' hc _ _ _ hn]; simp [c34])
                clear HK hn c34 c92 hc hc'
                go_wp2_with fail
                go_still_tail 17, (by kernel_rfl)
                change wpList _ _ _ _ _ wr.drew
                have hown5 := hown.drew
                have hbel5 := hbel.drew
                have c5 : wr.drew.cell? ⟨g, ps.length, none⟩ = some (.string CU) := c0
                have hfz := hown5.frozenAt ps.length
                generalize wr.drew = w5 at *
                have hst := hown5.stored ps.length (strV' (cur ++ [c]))
                rw [set_last] at hst
                have HST := hid hst
                clear hst hown c0
                go_wp2_with fail
                go_roundw
                case rel => exact ⟨k + 1, g, cap, false, false, ps, cur ++ [c], by omega, by go_num, rfl, rfl, rfl, by rw [HCAT.out]; exact HST.out.1, by omega, by simp; omega, HN, by rw [HCAT.out]; exact hbel5.grown HST.out.2 hbel5.size (fun b hb => (hown5.lt b hb).1)⟩
                case measure => simp [intOf]; omega
          · have b44 : ((s[k].toNat : Int) == 44) = false := by rw [beq_eq_false_iff_ne]; intro e; exact h44 (hc.symm.trans (UInt8.toNat.inj (show s[k].toNat = 44 by omega)))
            clear h44
            by_cases c34 : c = 34
            · have c34' : s[k] = 34 := hc.trans c34
              have b34 : ((s[k].toNat : Int) == 34) = true := by rw [c34']; rfl
              have b92 : ((s[k].toNat : Int) == 92) = false := by rw [c34']; rfl
              have c92 : c ≠ 92 := by rw [c34]; decide
              clear c34'
              cases eb
              · have HN : Hid (ps ++ splitGo true false (cur ++ [c]) (s.data.toList.drop (k + 1)) = X) := hid (by rw [← HK.out, split_on' hlt' hc _ _ _ hn]; simp [c34])
                clear HK hn c34 c92 hc hc'
                go_wp2_with fail
                go_still_tail 17, (by kernel_rfl)
                change wpList _ _ _ _ _ wr.drew
                have hown5 := hown.drew
                have hbel5 := hbel.drew
                have c5 : wr.drew.cell? ⟨g, ps.length, none⟩ = some (.string CU) := c0
                have hfz := hown5.frozenAt ps.length
                generalize wr.drew = w5 at *
                have hst := hown5.stored ps.length (strV' (cur ++ [c]))
                rw [set_last] at hst
                have HST := hid hst
                clear hst hown c0
                go_wp2_with fail
                go_roundw
                case rel => exact ⟨k + 1, g, cap, true, false, ps, cur ++ [c], by omega, by go_num, rfl, rfl, rfl, by rw [HCAT.out]; exact HST.out.1, by omega, by simp; omega, HN, by rw [HCAT.out]; exact hbel5.grown HST.out.2 hbel5.size (fun b hb => (hown5.lt b hb).1)⟩
                case measure => simp [intOf]; omega
              · have HN : Hid (ps ++ splitGo false false (cur ++ [c]) (s.data.toList.drop (k + 1)) = X) := hid (by rw [← HK.out, split_on' hlt' hc _ _ _ hn]; simp [c34])
                clear HK hn c34 c92 hc hc'
                go_wp2_with fail
                go_still_tail 17, (by kernel_rfl)
                change wpList _ _ _ _ _ wr.drew
                have hown5 := hown.drew
                have hbel5 := hbel.drew
                have c5 : wr.drew.cell? ⟨g, ps.length, none⟩ = some (.string CU) := c0
                have hfz := hown5.frozenAt ps.length
                generalize wr.drew = w5 at *
                have hst := hown5.stored ps.length (strV' (cur ++ [c]))
                rw [set_last] at hst
                have HST := hid hst
                clear hst hown c0
                go_wp2_with fail
                go_roundw
                case rel => exact ⟨k + 1, g, cap, false, false, ps, cur ++ [c], by omega, by go_num, rfl, rfl, rfl, by rw [HCAT.out]; exact HST.out.1, by omega, by simp; omega, HN, by rw [HCAT.out]; exact hbel5.grown HST.out.2 hbel5.size (fun b hb => (hown5.lt b hb).1)⟩
                case measure => simp [intOf]; omega
            · have b34 : ((s[k].toNat : Int) == 34) = false := by rw [beq_eq_false_iff_ne]; intro e; exact c34 (hc.symm.trans (UInt8.toNat.inj (show s[k].toNat = 34 by omega)))
              by_cases c92 : c = 92
              · have c92' : s[k] = 92 := hc.trans c92
                have b92 : ((s[k].toNat : Int) == 92) = true := by rw [c92']; rfl
                clear c92'
                cases eb
                · have HN : Hid (ps ++ splitGo false false (cur ++ [c]) (s.data.toList.drop (k + 1)) = X) := hid (by rw [← HK.out, split_on' hlt' hc _ _ _ hn]; simp [c92])
                  clear HK hn c34 c92 hc hc'
                  go_wp2_with fail
                  go_still_tail 17, (by kernel_rfl)
                  change wpList _ _ _ _ _ wr.drew
                  have hown5 := hown.drew
                  have hbel5 := hbel.drew
                  have c5 : wr.drew.cell? ⟨g, ps.length, none⟩ = some (.string CU) := c0
                  have hfz := hown5.frozenAt ps.length
                  generalize wr.drew = w5 at *
                  have hst := hown5.stored ps.length (strV' (cur ++ [c]))
                  rw [set_last] at hst
                  have HST := hid hst
                  clear hst hown c0
                  go_wp2_with fail
                  go_roundw
                  case rel => exact ⟨k + 1, g, cap, false, false, ps, cur ++ [c], by omega, by go_num, rfl, rfl, rfl, by rw [HCAT.out]; exact HST.out.1, by omega, by simp; omega, HN, by rw [HCAT.out]; exact hbel5.grown HST.out.2 hbel5.size (fun b hb => (hown5.lt b hb).1)⟩
                  case measure => simp [intOf]; omega
                · have HN : Hid (ps ++ splitGo false false (cur ++ [c]) (s.data.toList.drop (k + 1)) = X) := hid (by rw [← HK.out, split_on' hlt' hc _ _ _ hn]; simp [c92])
                  clear HK hn c34 c92 hc hc'
                  go_wp2_with fail
                  go_still_tail 17, (by kernel_rfl)
                  change wpList _ _ _ _ _ wr.drew
                  have hown5 := hown.drew
                  have hbel5 := hbel.drew
                  have c5 : wr.drew.cell? ⟨g, ps.length, none⟩ = some (.string CU) := c0
                  have hfz := hown5.frozenAt ps.length
                  generalize wr.drew = w5 at *
                  have hst := hown5.stored ps.length (strV' (cur ++ [c]))
                  rw [set_last] at hst
                  have HST := hid hst
                  clear hst hown c0
                  go_wp2_with fail
                  go_roundw
                  case rel => exact ⟨k + 1, g, cap, false, false, ps, cur ++ [c], by omega, by go_num, rfl, rfl, rfl, by rw [HCAT.out]; exact HST.out.1, by omega, by simp; omega, HN, by rw [HCAT.out]; exact hbel5.grown HST.out.2 hbel5.size (fun b hb => (hown5.lt b hb).1)⟩
                  case measure => simp [intOf]; omega
              · have b92 : ((s[k].toNat : Int) == 92) = false := by rw [beq_eq_false_iff_ne]; intro e; exact c92 (hc.symm.trans (UInt8.toNat.inj (show s[k].toNat = 92 by omega)))
                have e92 : (c == 92) = false := by rw [beq_eq_false_iff_ne]; exact c92
                cases eb
                · have HN : Hid (ps ++ splitGo false false (cur ++ [c]) (s.data.toList.drop (k + 1)) = X) := hid (by rw [← HK.out, split_on' hlt' hc _ _ _ hn]; simp [c34, e92])
                  clear HK hn c34 c92 e92 hc hc'
                  go_wp2_with fail
                  go_still_tail 17, (by kernel_rfl)
                  change wpList _ _ _ _ _ wr.drew
                  have hown5 := hown.drew
                  have hbel5 := hbel.drew
                  have c5 : wr.drew.cell? ⟨g, ps.length, none⟩ = some (.string CU) := c0
                  have hfz := hown5.frozenAt ps.length
                  generalize wr.drew = w5 at *
                  have hst := hown5.stored ps.length (strV' (cur ++ [c]))
                  rw [set_last] at hst
                  have HST := hid hst
                  clear hst hown c0
                  go_wp2_with fail
                  go_roundw
                  case rel => exact ⟨k + 1, g, cap, false, false, ps, cur ++ [c], by omega, by go_num, rfl, rfl, rfl, by rw [HCAT.out]; exact HST.out.1, by omega, by simp; omega, HN, by rw [HCAT.out]; exact hbel5.grown HST.out.2 hbel5.size (fun b hb => (hown5.lt b hb).1)⟩
                  case measure => simp [intOf]; omega
                · have HN : Hid (ps ++ splitGo false false (cur ++ [c]) (s.data.toList.drop (k + 1)) = X) := hid (by rw [← HK.out, split_on' hlt' hc _ _ _ hn]; simp [c34, e92])
                  clear HK hn c34 c92 e92 hc hc'
                  go_wp2_with fail
                  go_still_tail 17, (by kernel_rfl)
                  change wpList _ _ _ _ _ wr.drew
                  have hown5 := hown.drew
                  have hbel5 := hbel.drew
                  have c5 : wr.drew.cell? ⟨g, ps.length, none⟩ = some (.string CU) := c0
                  have hfz := hown5.frozenAt ps.length
                  generalize wr.drew = w5 at *
                  have hst := hown5.stored ps.length (strV' (cur ++ [c]))
                  rw [set_last] at hst
                  have HST := hid hst
                  clear hst hown c0
                  go_wp2_with fail
                  go_roundw
                  case rel => exact ⟨k + 1, g, cap, false, false, ps, cur ++ [c], by omega, by go_num, rfl, rfl, rfl, by rw [HCAT.out]; exact HST.out.1, by omega, by simp; omega, HN, by rw [HCAT.out]; exact hbel5.grown HST.out.2 hbel5.size (fun b hb => (hown5.lt b hb).1)⟩
                  case measure => simp [intOf]; omega
        · by_cases c34 : c = 34
          · have c34' : s[k] = 34 := hc.trans c34
            have b34 : ((s[k].toNat : Int) == 34) = true := by rw [c34']; rfl
            have b92 : ((s[k].toNat : Int) == 92) = false := by rw [c34']; rfl
            have c92 : c ≠ 92 := by rw [c34]; decide
            clear c34'
            cases eb
            · have HN : Hid (ps ++ splitGo false false (cur ++ [c]) (s.data.toList.drop (k + 1)) = X) := hid (by rw [← HK.out, split_on' hlt' hc _ _ _ hn]; simp [c34])
              clear HK hn c34 c92 hc hc'
              go_wp2_with fail
              go_still_tail 17, (by kernel_rfl)
              change wpList _ _ _ _ _ wr.drew
              have hown5 := hown.drew
              have hbel5 := hbel.drew
              have c5 : wr.drew.cell? ⟨g, ps.length, none⟩ = some (.string CU) := c0
              have hfz := hown5.frozenAt ps.length
              generalize wr.drew = w5 at *
              have hst := hown5.stored ps.length (strV' (cur ++ [c]))
              rw [set_last] at hst
              have HST := hid hst
              clear hst hown c0
              go_wp2_with fail
              go_roundw
              case rel => exact ⟨k + 1, g, cap, false, false, ps, cur ++ [c], by omega, by go_num, rfl, rfl, rfl, by rw [HCAT.out]; exact HST.out.1, by omega, by simp; omega, HN, by rw [HCAT.out]; exact hbel5.grown HST.out.2 hbel5.size (fun b hb => (hown5.lt b hb).1)⟩
              case measure => simp [intOf]; omega
            · have HN : Hid (ps ++ splitGo true false (cur ++ [c]) (s.data.toList.drop (k + 1)) = X) := hid (by rw [← HK.out, split_on' hlt' hc _ _ _ hn]; simp [c34])
              clear HK hn c34 c92 hc hc'
              go_wp2_with fail
              go_still_tail 17, (by kernel_rfl)
              change wpList _ _ _ _ _ wr.drew
              have hown5 := hown.drew
              have hbel5 := hbel.drew
              have c5 : wr.drew.cell? ⟨g, ps.length, none⟩ = some (.string CU) := c0
              have hfz := hown5.frozenAt ps.length
              generalize wr.drew = w5 at *
              have hst := hown5.stored ps.length (strV' (cur ++ [c]))
              rw [set_last] at hst
              have HST := hid hst
              clear hst hown c0
              go_wp2_with fail
              go_roundw
              case rel => exact ⟨k + 1, g, cap, true, false, ps, cur ++ [c], by omega, by go_num, rfl, rfl, rfl, by rw [HCAT.out]; exact HST.out.1, by omega, by simp; omega, HN, by rw [HCAT.out]; exact hbel5.grown HST.out.2 hbel5.size (fun b hb => (hown5.lt b hb).1)⟩
              case measure => simp [intOf]; omega
          · have b34 : ((s[k].toNat : Int) == 34) = false := by rw [beq_eq_false_iff_ne]; intro e; exact c34 (hc.symm.trans (UInt8.toNat.inj (show s[k].toNat = 34 by omega)))
            by_cases c92 : c = 92
            · have c92' : s[k] = 92 := hc.trans c92
              have b92 : ((s[k].toNat : Int) == 92) = true := by rw [c92']; rfl
              clear c92'
              cases eb
              · have HN : Hid (ps ++ splitGo true true (cur ++ [c]) (s.data.toList.drop (k + 1)) = X) := hid (by rw [← HK.out, split_on' hlt' hc _ _ _ hn]; simp [c92])
                clear HK hn c34 c92 hc hc'
                go_wp2_with fail
                go_still_tail 17, (by kernel_rfl)
                change wpList _ _ _ _ _ wr.drew
                have hown5 := hown.drew
                have hbel5 := hbel.drew
                have c5 : wr.drew.cell? ⟨g, ps.length, none⟩ = some (.string CU) := c0
                have hfz := hown5.frozenAt ps.length
                generalize wr.drew = w5 at *
                have hst := hown5.stored ps.length (strV' (cur ++ [c]))
                rw [set_last] at hst
                have HST := hid hst
                clear hst hown c0
                go_wp2_with fail
                go_roundw
                case rel => exact ⟨k + 1, g, cap, true, true, ps, cur ++ [c], by omega, by go_num, rfl, rfl, rfl, by rw [HCAT.out]; exact HST.out.1, by omega, by simp; omega, HN, by rw [HCAT.out]; exact hbel5.grown HST.out.2 hbel5.size (fun b hb => (hown5.lt b hb).1)⟩
                case measure => simp [intOf]; omega
              · have HN : Hid (ps ++ splitGo true false (cur ++ [c]) (s.data.toList.drop (k + 1)) = X) := hid (by rw [← HK.out, split_on' hlt' hc _ _ _ hn]; simp [c92])
                clear HK hn c34 c92 hc hc'
                go_wp2_with fail
                go_still_tail 17, (by kernel_rfl)
                change wpList _ _ _ _ _ wr.drew
                have hown5 := hown.drew
                have hbel5 := hbel.drew
                have c5 : wr.drew.cell? ⟨g, ps.length, none⟩ = some (.string CU) := c0
                have hfz := hown5.frozenAt ps.length
                generalize wr.drew = w5 at *
                have hst := hown5.stored ps.length (strV' (cur ++ [c]))
                rw [set_last] at hst
                have HST := hid hst
                clear hst hown c0
                go_wp2_with fail
                go_roundw
                case rel => exact ⟨k + 1, g, cap, true, false, ps, cur ++ [c], by omega, by go_num, rfl, rfl, rfl, by rw [HCAT.out]; exact HST.out.1, by omega, by simp; omega, HN, by rw [HCAT.out]; exact hbel5.grown HST.out.2 hbel5.size (fun b hb => (hown5.lt b hb).1)⟩
                case measure => simp [intOf]; omega
            · have b92 : ((s[k].toNat : Int) == 92) = false := by rw [beq_eq_false_iff_ne]; intro e; exact c92 (hc.symm.trans (UInt8.toNat.inj (show s[k].toNat = 92 by omega)))
              have e92 : (c == 92) = false := by rw [beq_eq_false_iff_ne]; exact c92
              cases eb
              · have HN : Hid (ps ++ splitGo true false (cur ++ [c]) (s.data.toList.drop (k + 1)) = X) := hid (by rw [← HK.out, split_on' hlt' hc _ _ _ hn]; simp [c34, e92])
                clear HK hn c34 c92 e92 hc hc'
                go_wp2_with fail
                go_still_tail 17, (by kernel_rfl)
                change wpList _ _ _ _ _ wr.drew
                have hown5 := hown.drew
                have hbel5 := hbel.drew
                have c5 : wr.drew.cell? ⟨g, ps.length, none⟩ = some (.string CU) := c0
                have hfz := hown5.frozenAt ps.length
                generalize wr.drew = w5 at *
                have hst := hown5.stored ps.length (strV' (cur ++ [c]))
                rw [set_last] at hst
                have HST := hid hst
                clear hst hown c0
                go_wp2_with fail
                go_roundw
                case rel => exact ⟨k + 1, g, cap, true, false, ps, cur ++ [c], by omega, by go_num, rfl, rfl, rfl, by rw [HCAT.out]; exact HST.out.1, by omega, by simp; omega, HN, by rw [HCAT.out]; exact hbel5.grown HST.out.2 hbel5.size (fun b hb => (hown5.lt b hb).1)⟩
                case measure => simp [intOf]; omega
              · have HN : Hid (ps ++ splitGo true false (cur ++ [c]) (s.data.toList.drop (k + 1)) = X) := hid (by rw [← HK.out, split_on' hlt' hc _ _ _ hn]; simp [c34, e92])
                clear HK hn c34 c92 e92 hc hc'
                go_wp2_with fail
                go_still_tail 17, (by kernel_rfl)
                change wpList _ _ _ _ _ wr.drew
                have hown5 := hown.drew
                have hbel5 := hbel.drew
                have c5 : wr.drew.cell? ⟨g, ps.length, none⟩ = some (.string CU) := c0
                have hfz := hown5.frozenAt ps.length
                generalize wr.drew = w5 at *
                have hst := hown5.stored ps.length (strV' (cur ++ [c]))
                rw [set_last] at hst
                have HST := hid hst
                clear hst hown c0
                go_wp2_with fail
                go_roundw
                case rel => exact ⟨k + 1, g, cap, true, false, ps, cur ++ [c], by omega, by go_num, rfl, rfl, rfl, by rw [HCAT.out]; exact HST.out.1, by omega, by simp; omega, HN, by rw [HCAT.out]; exact hbel5.grown HST.out.2 hbel5.size (fun b hb => (hown5.lt b hb).1)⟩
                case measure => simp [intOf]; omega
    · have hend : k = s.size := by omega
      subst hend
      have hx := HK.out
      rw [List.drop_eq_nil_of_le (by simp), splitGo] at hx
      subst hx
      clear HK
      go_wp2
      go_ret
      exact ⟨_, rfl, by simpa using hown, hbel⟩
end Go.Proofs.YtkoajdbijlpgaaaDoor
