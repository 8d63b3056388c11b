/-
  WALKS: the document's kind, Kind and find, and the law's all (chapter 21); no condition but on the lengths.
-/
import Derived.Test.YtgeapgbebbapmaaRefG
import Derived.Test.YtgeapgbebbapmaaUnuA
import Derived.Deep.QuietTactic
import Derived.BigQuiet
namespace Go.Proofs.Ytgeapgbebbapmaa
open Go.RowKit

theorem getE_on {E : Env} {v : Str} {k : Nat} (h : k < E.length) (h0 : E[k].1 ≠ v) : kindE (E.drop k) v = kindE (E.drop (k + 1)) v := by
  unfold kindE getE
  rw [List.drop_eq_getElem_cons h, List.find?_cons, beq_eq_false_iff_ne.2 h0]
theorem getE_at {E : Env} {v : Str} {k : Nat} (h : k < E.length) (h0 : E[k].1 = v) : kindE (E.drop k) v = E[k].2 := by
  unfold kindE getE
  rw [List.drop_eq_getElem_cons h, List.find?_cons, beq_iff_eq.2 h0]; rfl
theorem getE_end {E : Env} {v : Str} {k : Nat} (h : ¬ k < E.length) : kindE (E.drop k) v = 0 := by
  rw [List.drop_eq_nil_of_le (by omega)]; rfl

set_option maxRecDepth 100000 in
set_option maxHeartbeats 4000000 in
theorem ref_kind (E : Env) (U : Option Addr) (c : Nat) (X : ByteArray) (v : Str) (hX : X.toList = v) (w : World) (h : VrsAt w U E) (hm : E.length ≤ 9223372036854775807) {x : Int} (hx : kindE E v = x) :
    Calls Try.prog 40 #[.slice U E.length c, .string X] w fun e w' => e = .returned (.int .i64 x) ∧ Below w.heap.size w w' := by
  have HX := hid hX
  have H := hid h
  have HK0 : Hid (kindE (E.drop 0) v = x) := hid hx
  clear h hx hX
  go_enter Try.func40, Try.ntmps40
  go_wp2
  go_loopw [5] (fun i wr => ∃ k : Nat, k ≤ E.length ∧ i = .int .i64 k ∧ Hid (kindE (E.drop k) v = x) ∧ Below w.heap.size w wr) (fun i _ => E.length - (intOf i).toNat)
  case atStart => exact ⟨0, by omega, rfl, HK0, Below.refl _ _⟩
  case round =>
    obtain ⟨k, hk, rfl, HK, hbel⟩ := hrel
    clear HK0
    by_cases hlt : k < E.length
    · obtain ⟨bb, o, rfl, hc⟩ := H.out (by omega)
      have d0 := cell_keep hbel (hc k hlt).1
      have d1 := cell_keep hbel (hc k hlt).2
      have hat := fun h => getE_at (v := v) hlt h
      have hon := fun h => getE_on (v := v) hlt h
      obtain ⟨⟨n, y⟩, en⟩ : ∃ p, E[k] = p := ⟨_, rfl⟩
      rw [en] at d0 d1 hat hon
      simp only at d0 d1 hat hon
      obtain ⟨Y, hY, _, hYl⟩ := nm n
      rw [hY] at d0
      have heq := eqS hYl HX.out
      have hdl := cell_lt d0
      clear hc en hY hYl
      by_cases hv : n = v
      · have hx : y = x := by rw [← HK.out]; exact (hat hv).symm
        subst hx
        rw [decide_eq_true hv] at heq
        clear hat hon hv HK
        go_wp2
        go_ret
        exact ⟨rfl, hbel⟩
      · have HN := hid ((hon hv).symm.trans HK.out)
        rw [decide_eq_false hv] at heq
        clear hat hon hv HK
        go_wp2
        go_roundw
        case rel => exact ⟨k + 1, by omega, by go_num, HN, hbel⟩
        case measure => simp [intOf]; omega
    · have hx : x = 0 := by rw [← HK.out]; exact getE_end hlt
      subst hx
      clear HK
      go_wp2
      go_ret
      exact ⟨rfl, hbel⟩

set_option maxRecDepth 100000 in
set_option maxHeartbeats 4000000 in
theorem ref_Kind (E : Env) (U : Option Addr) (c : Nat) (X : ByteArray) (v : Str) (hX : X.toList = v) (w : World) (h : VrsAt w U E) (hm : E.length ≤ 9223372036854775807) {x : Int} (hx : kindE E v = x) :
    Calls Try.prog 28 #[.slice U E.length c, .string X] w fun e w' => e = .returned (.int .i64 x) ∧ Below w.heap.size w w' := by
  have C := hid (ref_kind E U c X v hX w h hm hx)
  clear h hx hX
  go_enter Try.func28, Try.ntmps28
  go_wp2_with fail
  refine C.out.mono ?_
  rintro e w1 ⟨rfl, b1⟩
  clear C
  go_wp2
  go_ret
  exact ⟨rfl, b1⟩

/-- The number of the first schema of a name, or -1. -/
def findI (S : List Sch) (n : Str) : Int := gIdx (S.findIdx? fun s => s.name == n)
theorem findI_some {S : List Sch} {n : Str} {k : Nat} (hk : k < S.length) (h : ∀ p (hp : p < S.length), p < k → S[p].name ≠ n) (h1 : S[k].name = n) : S.findIdx? (fun s => s.name == n) = some k := by
  rw [List.findIdx?_eq_some_iff_getElem]
  exact ⟨hk, by simpa using h1, fun p hp => by simpa using h p (by omega) hp⟩
theorem findI_none {S : List Sch} {n : Str} {k : Nat} (hk : ¬ k < S.length) (h : ∀ p (hp : p < S.length), p < k → S[p].name ≠ n) : S.findIdx? (fun s => s.name == n) = none := by
  rw [List.findIdx?_eq_none_iff]
  intro x hx
  obtain ⟨p, hp, rfl⟩ := List.getElem_of_mem hx
  simpa using h p hp (by omega)

set_option maxRecDepth 100000 in
set_option maxHeartbeats 4000000 in
theorem ref_find (S : List Sch) (B : Option Addr) (c : Nat) (X : ByteArray) (n : Str) (hX : X.toList = n) (w : World) (h : SchsAt w B S) (hm : S.length ≤ 9223372036854775807) {x : Option Nat} (hx : S.findIdx? (fun s => s.name == n) = x) :
    Calls Try.prog 39 #[.slice B S.length c, .string X] w fun e w' => e = .returned (.int .i64 (gIdx x)) ∧ Below w.heap.size w w' := by
  have HX := hid hX
  have H := hid h
  have HR := hid hx
  clear h hx hX
  go_enter Try.func39, Try.ntmps39
  go_wp2
  go_loopw [5] (fun i wr => ∃ k : Nat, k ≤ S.length ∧ i = .int .i64 k ∧ Hid (∀ p (hp : p < S.length), p < k → S[p].name ≠ n) ∧ Below w.heap.size w wr) (fun i _ => S.length - (intOf i).toNat)
  case atStart => exact ⟨0, by omega, rfl, hid (fun p hp h => absurd h (by omega)), Below.refl _ _⟩
  case round =>
    obtain ⟨k, hk, rfl, HK, hbel⟩ := hrel
    by_cases hlt : k < S.length
    · obtain ⟨bb, o, rfl, hc⟩ := H.out (by omega)
      obtain ⟨T, ct, d0, _⟩ := hc k hlt
      replace d0 := cell_keep hbel d0
      have hat := fun h => findI_some hlt HK.out h
      have hon : S[k].name ≠ n → ∀ p (hp : p < S.length), p < k + 1 → S[p].name ≠ n := fun h p hp hpi => by
        by_cases hpe : p = k
        · subst hpe; exact h
        · exact HK.out p hp (by omega)
      obtain ⟨sn, es⟩ : ∃ s, S[k].name = s := ⟨_, rfl⟩
      rw [es] at d0 hat hon
      obtain ⟨Y, hY, _, hYl⟩ := nm sn
      rw [hY] at d0
      have heq := eqS hYl HX.out
      have hdl := cell_lt d0
      clear hc es hY hYl
      by_cases hv : sn = n
      · have hx : x = some k := by rw [← HR.out]; exact hat hv
        subst hx
        rw [decide_eq_true hv] at heq
        clear hat hon hv HK
        go_wp2
        go_ret
        exact ⟨rfl, hbel⟩
      · have HN := hid (hon hv)
        rw [decide_eq_false hv] at heq
        clear hat hon hv HK
        go_wp2
        go_roundw
        case rel => exact ⟨k + 1, by omega, by go_num, HN, hbel⟩
        case measure => simp [intOf]; omega
    · have hx : x = none := by rw [← HR.out]; exact findI_none hlt HK.out
      subst hx
      clear HK
      go_wp2
      go_ret
      exact ⟨rfl, hbel⟩

theorem infoRS : (Try.prog.info? 113).map (fun i => (i.zero, i.size, i.bytes)) = some (some (.agg #[.string ⟨#[]⟩, .slice none 0 0]), 2, 40) := by kernel_rfl
set_option maxRecDepth 100000 in
set_option maxHeartbeats 4000000 in
theorem law_all (S : List Sch) (B : Option Addr) (c : Nat) (w : World) (h : SchsAt w B S) (hm : S.length ≤ 100000) :
    Calls Try.prog 26 #[.slice B S.length c] w fun e w' => ∃ B' c', e = .returned (.slice B' S.length c') ∧ SchsAt w' B' S ∧ S.length ≤ c' ∧ Below w.heap.size w w' := by
  obtain ⟨i0, hi, hz0, hz1, hz2⟩ := info_parts infoRS
  have H := hid h
  obtain ⟨f, hf, hC, _⟩ := schs_read h
  have HF := hid hf
  have HC := hid hC
  have hcell : 0 < S.length → ∃ b o, B = some ⟨b, o, none⟩ ∧ ∀ i (_ : i < S.length), ∃ T ct, f i = [.string ⟨S[i].name.toArray⟩, .slice T S[i].kinds.length ct] ∧ True := fun hp => by
    obtain ⟨b, o, e, _⟩ := h hp
    exact ⟨b, o, e, fun i hi => let ⟨T, ct, e, _⟩ := hC i hi; ⟨T, ct, e, trivial⟩⟩
  clear h hf hC hcell
  go_enter Try.func26, Try.ntmps26
  go_wp2
  go_loopw [8, 3] (fun i v3 wr => ∃ (k : Nat) (g : Nat → List Value), k ≤ S.length ∧ i = .int .i64 k ∧ Hid (∀ i, (g i).length = 2) ∧ Hid (∀ i (hi : i < S.length), i < k → SchC w S[i] (g i)) ∧ Hid (wr.ownsRow w.heap.size 113 2 v3 k ((List.range k).flatMap g)) ∧ Hid (Below w.heap.size w wr)) (fun i _ _ => S.length - (intOf i).toNat)
  case atStart => exact ⟨0, f, by omega, rfl, HF, hid (fun i hi h => absurd h (by omega)), hid (World.ownsRow_nil _ _ _ _), hid (Below.refl _ _)⟩
  case round =>
    obtain ⟨k, g, hk, rfl, HG, HGC, HV, HB⟩ := hrel
    clear HF HC
    have hbz := HB.out.size
    by_cases hlt : k < S.length
    · obtain ⟨bb, o, rfl, hc⟩ := H.out (by omega)
      obtain ⟨T, ct, d0, d1, hkd, hkc, hkm⟩ := hc k hlt
      have hsc : SchC w S[k] [.string ⟨S[k].name.toArray⟩, .slice T S[k].kinds.length ct] := ⟨T, ct, rfl, hkd, hkc, hkm⟩
      replace d0 := cell_keep HB.out d0
      replace d1 := cell_keep HB.out d1
      have hnew : ∀ cs, SchC w S[k] cs → ∀ i (hi : i < S.length), i < k + 1 → SchC w S[i] (if i < k then g i else cs) := fun cs hcs i hi hik => by
        by_cases h : i < k
        · rw [if_pos h]; exact HGC.out i hi h
        · rw [if_neg h]
          have : i = k := by omega
          subst this
          exact hcs
      obtain ⟨Z, hZ, _, _⟩ := nm S[k].name
      obtain ⟨kn, hkn⟩ : ∃ n, S[k].kinds.length = n := ⟨_, rfl⟩
      rw [hZ] at d0 hsc
      rw [hkn] at d1 hsc
      have HN := hid (hnew _ hsc)
      have HV2 := hid (HV.out.alloc (.cells #[.string Z, .slice T kn ct] 61))
      have HB2 := hid (HB.out.alloc hbz (.cells #[.string Z, .slice T kn ct] 61))
      have hdl := cell_lt d0
      clear hc hkd hkc hkm hsc hnew hZ hkn HV HB
      go_wp2_with (at_builtin; refine wpList_append_new2 Try.underlying91 hi hz0 hz1 hz2 rfl (by decide) (by decide) rfl rfl rfl HV2.out rfl (by simp) rfl rfl (by omega) (by simp; omega) ?_; intro v9 w9 hown9 hg9)
      have HV9 : Hid (w9.ownsRow w.heap.size 113 2 v9 (k + 1) ((List.range (k + 1)).flatMap fun i => if i < k then g i else [.string Z, .slice T kn ct])) := hid (by rw [flat_snoc]; exact hown9)
      have HB9 := hid (HB2.out.grown hg9 (by simp; omega) (fun k e => (HV2.out.lt k e).1))
      have HG2 : Hid (∀ i, (if i < k then g i else [.string Z, .slice T kn ct]).length = 2) := hid (fun i => by by_cases h : i < k <;> simp [h, HG.out])
      clear hown9 hg9 HV2 HB2 d0 d1 hdl
      go_wp2
      go_roundw
      case rel => exact ⟨k + 1, _, by omega, by go_num, HG2, HN, HV9, HB9⟩
      case measure => simp [intOf]; omega
    · obtain rfl : k = S.length := by omega
      obtain ⟨A, c', hA, hrow, hle⟩ := own_rowC (C := SchC) HG.out HV.out (fun i hi => (HGC.out i hi hi).below HB.out)
      subst hA
      have HRow := hid (schsC.2 hrow)
      clear hrow HV
      go_wp2
      go_ret
      exact ⟨A, c', rfl, HRow.out, hle, HB.out⟩
end Go.Proofs.Ytgeapgbebbapmaa
