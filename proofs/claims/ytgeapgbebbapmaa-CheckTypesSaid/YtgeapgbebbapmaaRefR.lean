/-
  WALK: the document's Rest (chapter 21); no condition but on the lengths.
-/
import Derived.Test.YtgeapgbebbapmaaRefT
import Derived.Deep.DeepCutAuto
namespace Go.Proofs.Ytgeapgbebbapmaa
open Go.RowKit

theorem verifyT_c {r : Rul} {E : Env} {x : Int} (h : verifyT r E = x) (h0 : firstE (condT E) r.conds ≠ 0) : firstE (condT E) r.conds = x := by
  unfold verifyT at h
  rwa [if_neg h0] at h
theorem verifyT_a {r : Rul} {E : Env} {x : Int} (h : verifyT r E = x) (h0 : firstE (condT E) r.conds = 0) : firstE (negE r.atoms) r.atoms = x := by
  unfold verifyT at h
  rwa [if_pos h0] at h

set_option maxRecDepth 100000 in
set_option maxHeartbeats 16000000 in
theorem ref_rest (r : Rul) (E : Env) (A B U : Option Addr) (ca cb cu : Nat) (w : World) (h : RAsAt w A r.atoms) (hc : RCsAt w B r.conds) (hu : VrsAt w U E) (m1 : r.atoms.length ≤ 2932031007402) (m2 : r.conds.length ≤ 2932031007402) (m3 : ∀ a ∈ r.atoms, a.ts.length ≤ 2932031007402) (m4 : E.length ≤ 9223372036854775807) {x : Int} (hx : verifyT r E = x) :
    Calls Try.prog 27 #[.agg #[.slice A r.atoms.length ca, .slice B r.conds.length cb], .slice U E.length cu] w fun e w' => e = .returned (.int .i64 x) ∧ Below w.heap.size w w' := by
  have HVa := hid (fun h0 => verifyT_a hx h0)
  have HVc := hid (fun h0 => verifyT_c hx h0)
  have H := hid h
  have HC := hid hc
  have HU := hid hu
  have C1 := fun (p : World) (hb : Below w.heap.size w p) (X : ByteArray) (v : Str) (hX : X.toList = v) => hid (ref_kind E U cu X v hX p (hu.below hb) m4 rfl)
  have C2 := fun (p : World) (hb : Below w.heap.size w p) (j : Nat) (hj : j < r.atoms.length) x hx => hid (ref_guard r A B ca cb j p (RAsAt.below h hb) m1 m3 hj (x := x) hx)
  clear h hc hu hx m3
  obtain ⟨ats, cds⟩ := r
  simp only at m1 m2 HVa HVc H HC C2 ⊢
  have HB0 : Hid (Below (w.heap.size + 1) (w.alloc (.cells #[.slice A ats.length ca, .slice B cds.length cb] 56)) (w.alloc (.cells #[.slice A ats.length ca, .slice B cds.length cb] 56))) := hid (Below.refl _ _)
  obtain ⟨y, hy⟩ : ∃ y, firstE (condT E) cds = y := ⟨_, rfl⟩
  have HY : Hid (firstE (condT E) (cds.drop 0) = y) := hid hy
  rw [hy] at HVa HVc
  clear hy
  go_enter Try.func27, Try.ntmps27
  go_wp2
  go_loopw [5] (fun i wr => ∃ k : Nat, k ≤ cds.length ∧ i = .int .i64 k ∧ Hid (firstE (condT E) (cds.drop k) = y) ∧ Hid (Below (w.heap.size + 1) (w.alloc (.cells #[.slice A ats.length ca, .slice B cds.length cb] 56)) wr)) (fun i _ => cds.length - (intOf i).toNat)
  case atStart => exact ⟨0, by omega, rfl, HY, HB0⟩
  case round =>
    obtain ⟨k, hk, rfl, HK, HB1⟩ := hrel
    clear HY HB0
    obtain ⟨c0, c1, clt, hbel⟩ := rul_cells HB1.out
    by_cases hlt : k < cds.length
    · obtain ⟨bb, o, rfl, hcc⟩ := rcsO HC.out (by omega)
      have d0 := cell_keep hbel (hcc k hlt).1
      have d1 := cell_keep hbel (hcc k hlt).2
      have hon := fun h => firstE_on (f := condT E) hlt h
      have hat := fun h => firstE_at (f := condT E) hlt h
      have hcd : condT E cds[k] = if cds[k].c.k = kindE E cds[k].v then 0 else 5 := rfl
      obtain ⟨⟨cv, cop, ⟨ck, cn, cx⟩⟩, ec⟩ : ∃ c, cds[k] = c := ⟨_, rfl⟩
      rw [ec] at d0 d1 hon hat hcd
      simp only at d0 d1 hcd
      rw [hcd] at hon hat
      obtain ⟨X, hX, _, hXl⟩ := nm cv
      rw [hX] at d0
      obtain ⟨q, hq⟩ : ∃ q, kindE E cv = q := ⟨_, rfl⟩
      have H1 := fun p : BelowBy wr => C1 p.to (hbel.trans (p.le.mono hbel.size)) X cv hXl
      rw [hq] at hon hat
      simp only [hq] at H1
      have a0 := fun p : BelowBy wr => by_cell c0 p
      have a1 := fun p : BelowBy wr => by_cell c1 p
      have e0 := fun p : BelowBy wr => by_cell d0 p
      have e1 := fun p : BelowBy wr => by_cell d1 p
      have Hon := hid hon
      have Hat := hid hat
      clear hcc ec hX hXl hq hcd hon hat
      by_cases hqk : ck = q
      · have bq : (q != ck) = false := by simpa using hqk.symm
        have HN := hid ((Hon.out (if_pos hqk)).symm.trans HK.out)
        clear Hon Hat hqk HK
        go_wp2_with fail
        refine wp_region_below (by kernel_rfl) (by kernel_rfl) ?_
        repeat (go_big_quiet_step (first | with_reducible exact calls_by (H1 _).out))
        refine wpQuiet_nil ?_
        rintro wq ⟨⟨wqx, kq⟩, rfl⟩
        clear a0 a1 e0 e1 H1
        have HB2 := hid (HB1.out.trans (kq.mono (by have := HB1.out.size; simpa using this)))
        go_wp2
        go_roundw
        case rel => exact ⟨k + 1, by omega, by go_num, HN, HB2⟩
        case measure => simp [intOf]; omega
      · have bq : (q != ck) = true := by rw [bne_iff_ne]; exact fun e => hqk e.symm
        have hy5 : y = 5 := by
          rw [← HK.out, Hat.out (by rw [if_neg hqk]; decide), if_neg hqk]
        have hx5 : x = 5 := by rw [← HVc.out (by rw [hy5]; decide)]; exact hy5
        subst hx5
        clear Hon Hat hqk HK hy5
        go_wp2_with fail
        refine wp_region_below (by kernel_rfl) (by kernel_rfl) ?_
        repeat (go_big_quiet_step (first | with_reducible exact calls_by (H1 _).out))
        refine wpQuiet_nil ?_
        rintro wq ⟨⟨wqx, kq⟩, rfl⟩
        clear a0 a1 e0 e1 H1
        have hbk := hbel.trans (kq.mono hbel.size)
        go_wp2
        go_ret
        exact ⟨rfl, hbk⟩
    · have hy0 : y = 0 := by rw [← HK.out]; exact firstE_end hlt
      have HX0 : Hid (firstE (negE ats) (ats.drop 0) = x) := hid (HVa.out hy0)
      clear HK HVa HVc hy0
      go_wp2
      clear c0 c1 clt
      go_loopw [6] (fun i wr => ∃ k : Nat, k ≤ ats.length ∧ i = .int .i64 k ∧ Hid (firstE (negE ats) (ats.drop k) = x) ∧ Hid (Below (w.heap.size + 1) (w.alloc (.cells #[.slice A ats.length ca, .slice B cds.length cb] 56)) wr)) (fun i _ => ats.length - (intOf i).toNat)
      case atStart => exact ⟨0, by omega, rfl, HX0, HB1⟩
      case round =>
        obtain ⟨k, hk, rfl, HK, HB2⟩ := hrel
        clear HX0 HB1 hbel
        obtain ⟨c0, c1, clt, hbel⟩ := rul_cells HB2.out
        by_cases hlt2 : k < ats.length
        · obtain ⟨bb, o, rfl, hcc⟩ := rasO H.out (by omega)
          obtain ⟨T, ct, d0, d1, d2, _⟩ := hcc k hlt2
          replace d0 := cell_keep hbel d0
          have hdl := cell_lt d0
          have hon := fun h => firstE_on (f := negE ats) hlt2 h
          have hat := fun h => firstE_at (f := negE ats) hlt2 h
          have hne : negE ats ats[k] = if ats[k].neg = true ∧ guardG ats ats[k] = none then 23 else 0 := rfl
          have C3 := fun x hx => C2 wr hbel k hlt2 x hx
          obtain ⟨ng, eng⟩ : ∃ b, ats[k].neg = b := ⟨_, rfl⟩
          obtain ⟨gg, egg⟩ : ∃ g, guardG ats ats[k] = g := ⟨_, rfl⟩
          rw [eng] at d0 hne
          rw [egg] at hne
          simp only [egg] at C3
          have Hon := hid hon
          have Hat := hid hat
          have HNE := hid hne
          clear hcc d1 d2 hon hat hne eng egg
          cases ng with
          | false =>
            have HN := hid ((Hon.out (by rw [HNE.out]; simp)).symm.trans HK.out)
            clear Hon Hat HNE HK C3
            go_wp2
            go_roundw
            case rel => exact ⟨k + 1, by omega, by go_num, HN, HB2⟩
            case measure => simp [intOf]; omega
          | true =>
            have C4 := C3 _ rfl
            clear C3
            cases gg with
            | none =>
              have hx23 : x = 23 := by
                rw [← HK.out, Hat.out (by rw [HNE.out]; simp), HNE.out]; simp
              subst hx23
              clear Hon Hat HNE HK
              go_wp2_with fail
              refine C4.out.mono ?_
              rintro e w5 ⟨rfl, b5⟩
              have hb5 := hbel.trans (b5.mono hbel.size)
              clear C4 b5
              go_wp2
              go_ret
              exact ⟨rfl, hb5⟩
            | some g =>
              have HN := hid ((Hon.out (by rw [HNE.out]; simp)).symm.trans HK.out)
              clear Hon Hat HNE HK
              go_wp2_with fail
              refine C4.out.mono ?_
              rintro e w5 ⟨rfl, b5⟩
              have HB5 := hid (HB2.out.trans (b5.mono (by have := HB2.out.size; simpa using this)))
              have hg0 : decide (gIdx (some g) < 0) = false := decide_eq_false (by show ¬ (g : Int) < 0; omega)
              clear C4 b5
              go_wp2
              go_roundw
              case rel => exact ⟨k + 1, by omega, by go_num, HN, HB5⟩
              case measure => simp [intOf]; omega
        · have hx0 : x = 0 := by rw [← HK.out]; exact firstE_end hlt2
          subst hx0
          clear HK
          go_wp2
          go_ret
          exact ⟨rfl, hbel⟩
end Go.Proofs.Ytgeapgbebbapmaa
