/-
  WALKS: the document's has and Guard (chapter 21); no condition but on the lengths.
-/
import Derived.Test.YtgeapgbebbapmaaRef21
import Derived.Test.YtgeapgbebbapmaaChk3
import Derived.Deep.QuietTactic
import Derived.BigQuiet
namespace Go.Proofs.Ytgeapgbebbapmaa
open Go.RowKit

theorem rtsO {w : World} {A : Option Addr} {l : List Trm} (h : RTsAt w A l) (hp : 0 < l.length) : ∃ b o, A = some ⟨b, o, none⟩ ∧ ∀ i (h : i < l.length), w.cell? ⟨b, o + i * 2, none⟩ = some (.string ⟨l[i].v.toArray⟩) ∧ w.cell? ⟨b, o + i * 2 + 1, none⟩ = some (.int .i64 l[i].c.k) := by
  obtain ⟨b, o, e, hc⟩ := h hp
  refine ⟨b, o, e, fun i hi => ?_⟩
  obtain ⟨cs, rfl, _, h3⟩ := hc i hi
  exact ⟨h3 0 _ rfl, h3 1 _ rfl⟩
theorem rcsO {w : World} {A : Option Addr} {l : List Cnd} (h : RCsAt w A l) (hp : 0 < l.length) : ∃ b o, A = some ⟨b, o, none⟩ ∧ ∀ i (h : i < l.length), w.cell? ⟨b, o + i * 2, none⟩ = some (.string ⟨l[i].v.toArray⟩) ∧ w.cell? ⟨b, o + i * 2 + 1, none⟩ = some (.int .i64 l[i].c.k) := by
  obtain ⟨b, o, e, hc⟩ := h hp
  refine ⟨b, o, e, fun i hi => ?_⟩
  obtain ⟨cs, rfl, _, h3⟩ := hc i hi
  exact ⟨h3 0 _ rfl, h3 1 _ rfl⟩
theorem rasO {w : World} {A : Option Addr} {l : List Atm} (h : RAsAt w A l) (hp : 0 < l.length) : ∃ b o, A = some ⟨b, o, none⟩ ∧ ∀ i (h : i < l.length), ∃ T c, w.cell? ⟨b, o + i * 3, none⟩ = some (.bool l[i].neg) ∧ w.cell? ⟨b, o + i * 3 + 1, none⟩ = some (.string ⟨l[i].rel.toArray⟩) ∧ w.cell? ⟨b, o + i * 3 + 2, none⟩ = some (.slice T l[i].ts.length c) ∧ RTsAt w T l[i].ts := by
  obtain ⟨b, o, e, hc⟩ := h hp
  refine ⟨b, o, e, fun i hi => ?_⟩
  obtain ⟨cs, ⟨T, c, rfl, h2⟩, _, h3⟩ := hc i hi
  exact ⟨T, c, h3 0 _ rfl, h3 1 _ rfl, h3 2 _ rfl, h2⟩

/-- An atom's box keeps its cells. -/
theorem atm_cells {w w' : World} {v0 v1 v2 : Value} {t : TypeId} (h : Below (w.heap.size + 1) (w.alloc (.cells #[v0, v1, v2] t)) w') :
    w'.cell? ⟨w.heap.size, 0, none⟩ = some v0 ∧ w'.cell? ⟨w.heap.size, 1, none⟩ = some v1 ∧ w'.cell? ⟨w.heap.size, 2, none⟩ = some v2 ∧ w.heap.size < w'.heap.size ∧ Below w.heap.size w w' := by
  refine ⟨(h.cell (p := ⟨w.heap.size, 0, none⟩) (by simp)).trans (by simp), (h.cell (p := ⟨w.heap.size, 1, none⟩) (by simp)).trans (by simp), (h.cell (p := ⟨w.heap.size, 2, none⟩) (by simp)).trans (by simp), ?_, (below_one w _).trans (h.mono (by omega))⟩
  have := h.size
  simp at this
  omega
def hasB (l : List Trm) (n : Str) : Bool := l.any fun t => t.v == n
theorem hasB_end {l : List Trm} {n : Str} {k : Nat} (h : ¬ k < l.length) : hasB (l.drop k) n = false := by rw [List.drop_eq_nil_of_le (by omega)]; rfl
theorem hasB_at {l : List Trm} {n : Str} {k : Nat} (h : k < l.length) (h0 : l[k].v = n) : hasB (l.drop k) n = true := by
  unfold hasB
  rw [List.drop_eq_getElem_cons h, List.any_cons, beq_iff_eq.2 h0, Bool.true_or]
theorem hasB_on {l : List Trm} {n : Str} {k : Nat} (h : k < l.length) (h0 : l[k].v ≠ n) : hasB (l.drop k) n = hasB (l.drop (k + 1)) n := by
  unfold hasB
  rw [List.drop_eq_getElem_cons h, List.any_cons, beq_eq_false_iff_ne.2 h0, Bool.false_or]

set_option maxRecDepth 100000 in
set_option maxHeartbeats 4000000 in
theorem ref_has (ng : Bool) (Z : ByteArray) (l : List Trm) (T : Option Addr) (c : Nat) (X : ByteArray) (n : Str) (hX : X.toList = n) (w : World) (h : RTsAt w T l) (hm : l.length ≤ 9223372036854775807) {b : Bool} (hb : hasB l n = b) :
    Calls Try.prog 30 #[.agg #[.bool ng, .string Z, .slice T l.length c], .string X] w fun e w' => e = .returned (.bool b) ∧ Below w.heap.size w w' := by
  have HX := hid hX
  have H := hid h
  have HB : Hid (hasB (l.drop 0) n = b) := hid hb
  clear h hb hX
  have HB0 : Hid (Below (w.heap.size + 1) (w.alloc (.cells #[.bool ng, .string Z, .slice T l.length c] 98)) (w.alloc (.cells #[.bool ng, .string Z, .slice T l.length c] 98))) := hid (Below.refl _ _)
  go_enter Try.func30, Try.ntmps30
  go_wp2
  go_loopw [5] (fun i wr => ∃ k : Nat, k ≤ l.length ∧ i = .int .i64 k ∧ Hid (hasB (l.drop k) n = b) ∧ Hid (Below (w.heap.size + 1) (w.alloc (.cells #[.bool ng, .string Z, .slice T l.length c] 98)) wr)) (fun i _ => l.length - (intOf i).toNat)
  case atStart => exact ⟨0, by omega, rfl, HB, HB0⟩
  case round =>
    obtain ⟨k, hk, rfl, HK, HB1⟩ := hrel
    clear HB HB0
    obtain ⟨c0, c1, c2, clt, hbel⟩ := atm_cells HB1.out
    have hsz := hbel.size
    by_cases hlt : k < l.length
    · obtain ⟨bb, o, rfl, hc⟩ := rtsO H.out (by omega)
      have d0 := (hc k hlt).1
      replace d0 := cell_keep hbel d0
      have hat := fun h => hasB_at (n := n) hlt h
      have hon := fun h => hasB_on (n := n) hlt h
      obtain ⟨v, ev⟩ : ∃ v, l[k].v = v := ⟨_, rfl⟩
      rw [ev] at d0 hat hon
      obtain ⟨Y, hY, _, hYl⟩ := nm v
      rw [hY] at d0
      have heq := eqS hYl HX.out
      clear hc ev hY hYl
      by_cases hv : v = n
      · have hx : b = true := by rw [← HK.out]; exact hat hv
        subst hx
        rw [decide_eq_true hv] at heq
        clear hat hon hv HK
        go_wp2
        go_ret
        exact ⟨rfl, hbel⟩
      · have HN := hid ((hon hv).symm.trans HK.out)
        rw [decide_eq_false hv] at heq
        clear hat hon hv HK
        go_wp2
        go_roundw
        case rel => exact ⟨k + 1, by omega, by go_num, HN, HB1⟩
        case measure => simp [intOf]; omega
    · have hx : b = false := by rw [← HK.out]; exact hasB_end hlt
      subst hx
      clear HK
      go_wp2
      go_ret
      exact ⟨rfl, hbel⟩

/-- The number of a guard, or -1. -/
def gIdx : Option Nat → Int
  | some n => n
  | none => -1
def guardP (a b : Atm) : Bool := a.ts.all fun t => t.v == [] || hasB b.ts t.v
theorem guardsB_eq (a b : Atm) : guardsB a b = (!b.neg && guardP a b) := rfl
theorem guardG_at {l : List Atm} {a : Atm} {i : Nat} (hi : i < l.length) (h : ∀ p (hp : p < l.length), p < i → guardsB a l[p] = false) (h1 : guardsB a l[i] = true) : guardG l a = some i := by
  unfold guardG
  rw [List.findIdx?_eq_some_iff_getElem]
  exact ⟨hi, h1, fun p hp => by simp [h p (by omega) hp]⟩
theorem guardG_no {l : List Atm} {a : Atm} {i : Nat} (hi : ¬ i < l.length) (h : ∀ p (hp : p < l.length), p < i → guardsB a l[p] = false) : guardG l a = none := by
  unfold guardG
  rw [List.findIdx?_eq_none_iff]
  intro x hx
  obtain ⟨p, hp, rfl⟩ := List.getElem_of_mem hx
  exact h p hp (by omega)
theorem allP_on {l : List Trm} {p : Trm → Bool} {k : Nat} (h : k < l.length) : (l.take (k + 1)).all p = ((l.take k).all p && p l[k]) := by
  rw [List.take_succ_eq_append_getElem h, List.all_append]; simp

set_option maxRecDepth 100000 in
set_option maxHeartbeats 16000000 in
theorem ref_guard (r : Rul) (A B : Option Addr) (ca cb j : Nat) (w : World) (h : RAsAt w A r.atoms) (m1 : r.atoms.length ≤ 2932031007402) (m3 : ∀ a ∈ r.atoms, a.ts.length ≤ 2932031007402) (hj : j < r.atoms.length) {x : Int} (hx : gIdx (guardG r.atoms r.atoms[j]) = x) :
    Calls Try.prog 17 #[.agg #[.slice A r.atoms.length ca, .slice B r.conds.length cb], .int .i64 j] w fun e w' => e = .returned (.int .i64 x) ∧ Below w.heap.size w w' := by
  obtain ⟨ats, cds⟩ := r
  replace hj : j < ats.length := hj
  replace hx : gIdx (guardG ats ats[j]) = x := hx
  simp only at h m1 m3 ⊢
  have M3 := hid m3
  obtain ⟨aj, haj⟩ : ∃ a, ats[j] = a := ⟨_, rfl⟩
  rw [haj] at hx
  have HX := hid hx
  obtain ⟨bA, oA, rfl, hc⟩ := rasO h (by omega)
  have HC := hid hc
  obtain ⟨Tj, cj, j0, j1, j2, htj⟩ := hc j hj
  clear j0 j1
  have hmj := m3 ats[j] (List.getElem_mem hj)
  rw [haj] at j2 htj hmj
  obtain ⟨nj, hnj⟩ : ∃ n, aj.ts.length = n := ⟨_, rfl⟩
  rw [hnj] at j2 hmj
  have HNJ := hid hnj
  have J2 := hid j2
  have HTJ := hid htj
  have HB0 : Hid (Below (w.heap.size + 1) (w.alloc (.cells #[.slice (some ⟨bA, oA, none⟩) ats.length ca, .slice B cds.length cb] 56)) (w.alloc (.cells #[.slice (some ⟨bA, oA, none⟩) ats.length ca, .slice B cds.length cb] 56))) := hid (Below.refl _ _)
  clear h m3 hx hc j2 htj haj hnj
  go_enter Try.func17, Try.ntmps17
  go_wp2
  go_loopw [5] (fun i wr => ∃ k : Nat, k ≤ ats.length ∧ i = .int .i64 k ∧ Hid (∀ p (hp : p < ats.length), p < k → guardsB aj ats[p] = false) ∧ Hid (Below (w.heap.size + 1) (w.alloc (.cells #[.slice (some ⟨bA, oA, none⟩) ats.length ca, .slice B cds.length cb] 56)) wr)) (fun i _ => ats.length - (intOf i).toNat)
  case atStart => exact ⟨0, by omega, rfl, hid (fun p hp h => absurd h (by omega)), HB0⟩
  case round =>
    rename World => wo
    obtain ⟨i, hi, rfl, HI, HB1⟩ := hrel
    clear HB0
    obtain ⟨c0, c1, clt, hbel⟩ := rul_cells HB1.out
    have hsz := hbel.size
    by_cases hlt : i < ats.length
    · obtain ⟨Ti, ci, d0, d1, d2, hti⟩ := HC.out i hlt
      have hdl := cell_lt d0
      have mi := M3.out ats[i] (List.getElem_mem hlt)
      have hgat := fun h => guardG_at (a := aj) hlt HI.out h
      have hgb := guardsB_eq aj ats[i]
      have hon : guardsB aj ats[i] = false → ∀ p (hp : p < ats.length), p < i + 1 → guardsB aj ats[p] = false := fun h p hp hpi => by
        by_cases hpe : p = i
        · subst hpe; exact h
        · exact HI.out p hp (by omega)
      obtain ⟨⟨ng, rel, ts⟩, ei⟩ : ∃ a, ats[i] = a := ⟨_, rfl⟩
      rw [ei] at d0 d1 d2 hti mi hgat hgb hon
      simp only at d0 d1 d2 hti mi hgb
      obtain ⟨Z, hZ, _, _⟩ := nm rel
      rw [hZ] at d1
      have D0 := hid d0
      replace d0 := cell_keep hbel d0
      have D1 := hid d1
      have D2 := hid d2
      have HTI := hid hti
      have HGAT := hid hgat
      have HGB := hid hgb
      have HON := hid hon
      clear d1 d2 hti ei hgat hgb hon hZ
      cases ng with
      | true =>
        have HN := hid (HON.out (by rw [HGB.out]; rfl))
        clear D0 D1 D2 HTI HGAT HGB HON
        go_wp2
        go_roundw
        case rel => exact ⟨i + 1, by omega, by go_num, HN, HB1⟩
        case measure => simp [intOf]; omega
      | false =>
        go_wp2
        clear d0 c0 c1 clt
        go_loopw [7, 6] (fun i v6 wx => ∃ (k : Nat) (b : Bool), k ≤ nj ∧ i = .int .i64 k ∧ v6 = .bool b ∧ Hid ((aj.ts.take k).all (fun t => t.v == [] || hasB ts t.v) = b) ∧ Hid (Below (w.heap.size + 1) (w.alloc (.cells #[.slice (some ⟨bA, oA, none⟩) ats.length ca, .slice B cds.length cb] 56)) wx)) (fun i _ _ => nj - (intOf i).toNat)
        case atStart => exact ⟨0, true, by omega, rfl, rfl, hid rfl, HB1⟩
        case round =>
          obtain ⟨k, b, hk, rfl, rfl, HK, HB2⟩ := hrel
          clear HB1 hbel hsz
          obtain ⟨c0, c1, clt, hbel⟩ := rul_cells HB2.out
          have hsz := hbel.size
          have j2 := cell_keep hbel J2.out
          have d0 := cell_keep hbel D0.out
          have hjl : bA < wr.heap.size := cell_lt j2
          by_cases hkn : k < nj
          · have hkt : k < aj.ts.length := by have := HNJ.out; omega
            obtain ⟨bt, ot, rfl, hct⟩ := rtsO HTJ.out (by omega)
            have g0 := (hct k hkt).1
            replace g0 := cell_keep hbel g0
            have hstep := allP_on (p := fun t => t.v == [] || hasB ts t.v) hkt
            obtain ⟨v, ev⟩ : ∃ v, aj.ts[k].v = v := ⟨_, rfl⟩
            rw [HK.out] at hstep
            simp only [ev] at hstep
            rw [ev] at g0
            obtain ⟨Y, hY, _, hYl⟩ := nm v
            rw [hY] at g0
            have hno := noS hYl
            have HYL := hid hYl
            have HSTEP := hid hstep
            clear hct ev hY hYl hstep hkt HK
            cases b with
            | false =>
              have HN : Hid ((aj.ts.take (k + 1)).all (fun t => t.v == [] || hasB ts t.v) = false) := hid (by rw [HSTEP.out]; rfl)
              clear HSTEP hno
              go_wp2
              go_roundw
              case rel => exact ⟨k + 1, _, by omega, by go_num, rfl, HN, HB2⟩
              case measure => simp [intOf]; omega
            | true =>
              by_cases hv : v = []
              · have hz : Y.toList.isEmpty = true := by rw [hno]; simpa using hv
                have HN : Hid ((aj.ts.take (k + 1)).all (fun t => t.v == [] || hasB ts t.v) = true) := hid (by rw [HSTEP.out, hv]; rfl)
                clear HSTEP hno hv
                go_wp2
                go_roundw
                case rel => exact ⟨k + 1, _, by omega, by go_num, rfl, HN, HB2⟩
                case measure => simp [intOf]; omega
              · have hz : Y.toList.isEmpty = false := by rw [hno]; simpa using hv
                obtain ⟨q, hq⟩ : ∃ q, hasB ts v = q := ⟨_, rfl⟩
                have HN : Hid ((aj.ts.take (k + 1)).all (fun t => t.v == [] || hasB ts t.v) = q) := hid (by rw [HSTEP.out, hq, beq_eq_false_iff_ne.2 hv]; simp)
                have HQ := hid hq
                have d1 := cell_keep hbel D1.out
                have d2 := cell_keep hbel D2.out
                clear HSTEP hno hv hq
                go_wp2_with fail
                refine (ref_has false Z ts Ti ci Y v HYL.out _ (HTI.out.below hbel) (by omega) HQ.out).mono ?_
                rintro e w7 ⟨rfl, b7⟩
                have HB7 := hid (HB2.out.trans (b7.mono (by have := HB2.out.size; simpa using this)))
                clear b7
                go_wp2
                go_roundw
                case rel => exact ⟨k + 1, _, by omega, by go_num, rfl, HN, HB7⟩
                case measure => simp [intOf]; omega
          · have hall : guardP aj ⟨false, rel, ts⟩ = b := by
              have h1 := HK.out
              rw [List.take_of_length_le (by have := HNJ.out; omega)] at h1
              exact h1
            have hgq := HGB.out
            rw [hall] at hgq
            clear HK hall
            cases b with
            | true =>
              have hx : x = i := by
                rw [← HX.out, HGAT.out (by rw [hgq]; rfl)]; rfl
              subst hx
              clear hgq HGAT HGB HON HI
              go_wp2
              go_ret
              exact ⟨rfl, hbel⟩
            | false =>
              have HN := hid (HON.out (by rw [hgq]; rfl))
              clear hgq HGAT HGB HON
              go_wp2
              go_roundw
              case rel => exact ⟨i + 1, by omega, by go_num, HN, HB2⟩
              case measure => simp [intOf]; omega
    · have hx : x = -1 := by rw [← HX.out, guardG_no hlt HI.out]; rfl
      subst hx
      clear HI
      go_wp2
      go_ret
      exact ⟨rfl, hbel⟩
end Go.Proofs.Ytgeapgbebbapmaa
