/-
  WALK: the law's same.
-/
import Derived.Test.YtgeapgbebbapmaaChk6
import Derived.Deep.QuietTactic
import Derived.BigQuiet
import Derived.Laws.StructEq
namespace Go.Proofs.Ytgeapgbebbapmaa
open Go.RowKit

theorem guardVr : Try.prog.eqGuardType Try.prog.depth 66 = false := by kernel_rfl
theorem heldVr : Try.prog.stoodInHeld 66 = false := by kernel_rfl
theorem structVr : Try.prog.underlying 66 = some (.struct (Try.prog.fieldsOf 66)) := by kernel_rfl
theorem eq_vr (a b : ByteArray) (x y : Int) {q : Bool} (hq : (a.toList == b.toList && x == y) = q) (w : World) :
    (Op.equalIn 10000 66 (.agg #[.string a, .int .i64 x]) (.agg #[.string b, .int .i64 y])).run Try.prog w = .ok q w := by
  subst hq
  rw [run_equalIn_agg w 9999 _ _ _ structVr heldVr]
  simp [go_sem, Try.underlying66, Try.underlying3, Try.underlying9]
  by_cases h1 : a.toList = b.toList <;> by_cases h2 : x = y <;> simp [h1, h2]

theorem pair_on {n m : Str} {x y : Int} (h : ((⟨n.toArray⟩ : ByteArray).toList == (⟨m.toArray⟩ : ByteArray).toList && x == y) = true) : (n, x) = (m, y) := by
  rw [Lib.toList_data, Lib.toList_data, Bool.and_eq_true, beq_iff_eq, beq_iff_eq] at h
  exact Prod.ext h.1 h.2
theorem pair_off {n m : Str} {x y : Int} (h : ((⟨n.toArray⟩ : ByteArray).toList == (⟨m.toArray⟩ : ByteArray).toList && x == y) = false) : (n, x) ≠ (m, y) := by
  intro e
  injection e with e1 e2
  subst e1 e2
  simp at h
theorem take_eq_on {α : Type} {a b : List α} {k : Nat} (h : k < a.length) (h' : k < b.length) (he : a.take k = b.take k) (hk : a[k] = b[k]) : a.take (k + 1) = b.take (k + 1) := by
  rw [List.take_succ_eq_append_getElem h, List.take_succ_eq_append_getElem h', he, hk]
theorem take_eq_end {α : Type} {a b : List α} {k : Nat} (h : ¬ k < a.length) (hl : a.length = b.length) (he : a.take k = b.take k) : a = b := by
  rw [List.take_of_length_le (by omega), List.take_of_length_le (by omega)] at he; exact he

set_option maxRecDepth 100000 in
set_option maxHeartbeats 8000000 in
theorem law_same (th hs : List Int) (tr rs : List Env) (H R A B : Option Addr) (ch cr ca cb : Nat) (w : World) (h1 : KdsAt w H th) (h2 : VrssAt w R tr) (h3 : KdsAt w A hs) (h4 : VrssAt w B rs)
    (m1 : th.length ≤ 100000) (m2 : tr.length ≤ 100000) (m3 : hs.length ≤ 100000) (m4 : rs.length ≤ 100000) (m5 : ∀ l ∈ tr, l.length ≤ 100000) (m6 : ∀ l ∈ rs, l.length ≤ 100000) {b : Bool} (hb : decide (th = hs ∧ tr = rs) = b) :
    Calls Try.prog 15 #[.agg #[.slice H th.length ch, .slice R tr.length cr], .slice A hs.length ca, .slice B rs.length cb] w fun e w' => e = .returned (.bool b) ∧ Below w.heap.size w w' := by
  have HB := hid hb
  have H1 := hid h1
  have H2 := hid h2
  have H3 := hid h3
  have H4 := hid h4
  have M5 := hid m5
  have M6 := hid m6
  clear hb h1 h2 h3 h4 m5 m6
  have hb0 := below_one w (.cells #[.slice H th.length ch, .slice R tr.length cr] 34)
  by_cases hl1 : th.length = hs.length
  · have b1 : ((th.length : Int) != (hs.length : Int)) = false := by rw [bne_eq_false_iff_eq]; omega
    by_cases hl2 : tr.length = rs.length
    · have b2 : ((tr.length : Int) != (rs.length : Int)) = false := by rw [bne_eq_false_iff_eq]; omega
      have HL1 := hid hl1
      have HL2 := hid hl2
      have HBx : Hid (Below (w.heap.size + 1) (w.alloc (.cells #[.slice H th.length ch, .slice R tr.length cr] 34)) (w.alloc (.cells #[.slice H th.length ch, .slice R tr.length cr] 34))) := hid (Below.refl _ _)
      clear hl1 hl2
      go_enter Try.func15, Try.ntmps15
      go_wp2
      go_loopw [26] (fun i wr => ∃ k : Nat, k ≤ hs.length ∧ i = .int .i64 k ∧ Hid (th.take k = hs.take k) ∧ Hid (Below (w.heap.size + 1) (w.alloc (.cells #[.slice H th.length ch, .slice R tr.length cr] 34)) wr)) (fun i _ => hs.length - (intOf i).toNat)
      case atStart => exact ⟨0, by omega, rfl, hid (by simp), HBx⟩
      case round =>
        obtain ⟨k, hk, rfl, HK, HBk⟩ := hrel
        clear HBx
        obtain ⟨q0, q1, qlt, hbel⟩ := rul_cells HBk.out
        have hsz := hbel.size
        by_cases hlt : k < hs.length
        · have hlt' : k < th.length := by have := HL1.out; omega
          obtain ⟨ba, oa, rfl, hca⟩ := H3.out (by omega)
          obtain ⟨bh, oh, rfl, hch⟩ := H1.out (by omega)
          have d0 := cell_keep hbel (hca k hlt)
          have d1 := cell_keep hbel (hch k hlt')
          have hon := fun h => take_eq_on hlt' hlt HK.out h
          have hne : th[k] ≠ hs[k] → th ≠ hs := fun h e => h (by subst e; rfl)
          obtain ⟨x, ex⟩ : ∃ x, th[k] = x := ⟨_, rfl⟩
          obtain ⟨y, ey⟩ : ∃ y, hs[k] = y := ⟨_, rfl⟩
          rw [ex, ey] at hon hne
          rw [ex] at d1
          rw [ey] at d0
          have Hon := hid hon
          have Hne := hid hne
          clear hca hch ex ey hon hne
          by_cases hxy : x = y
          · have bq : (x != y) = false := by simpa using hxy
            have HN := hid (Hon.out hxy)
            clear Hon Hne hxy HK
            go_wp2
            go_quiet (fail)
            have HB2 := hid (below_drewN HBk.out nq)
            go_wp2
            go_roundw
            case rel => exact ⟨k + 1, by omega, by go_num, HN, HB2⟩
            case measure => simp [intOf]; omega
          · have bq : (x != y) = true := by simpa using hxy
            have hx : b = false := by rw [← HB.out]; exact decide_eq_false (fun e => Hne.out hxy e.1)
            subst hx
            clear Hon Hne hxy HK
            go_wp2
            go_quiet (fail)
            go_wp2
            go_ret
            exact ⟨rfl, below_drewN hbel nq⟩
        · have hhe : th = hs := take_eq_end (by have := HL1.out; omega) HL1.out HK.out
          have HHE := hid hhe
          clear HK hhe
          go_wp2
          go_loopw [42] (fun i wr => ∃ k : Nat, k ≤ rs.length ∧ i = .int .i64 k ∧ Hid (tr.take k = rs.take k) ∧ Hid (Below (w.heap.size + 1) (w.alloc (.cells #[.slice H th.length ch, .slice R tr.length cr] 34)) wr)) (fun i _ => rs.length - (intOf i).toNat)
          case atStart => exact ⟨0, by omega, rfl, hid (by simp), HBk⟩
          case round =>
            obtain ⟨k2, hk2, rfl, HK2, HB2⟩ := hrel
            clear HBk q0 q1 qlt hbel hsz
            obtain ⟨q0, q1, qlt, hbel⟩ := rul_cells HB2.out
            have hsz := hbel.size
            by_cases hlt2 : k2 < rs.length
            · have hlt2' : k2 < tr.length := by have := HL2.out; omega
              obtain ⟨bb, ob, rfl, hcb⟩ := H4.out (by omega)
              obtain ⟨br, or, rfl, hcr⟩ := H2.out (by omega)
              obtain ⟨T1, c1, f1, v1, _⟩ := hcb k2 hlt2
              obtain ⟨T2, c2, f2, v2, _⟩ := hcr k2 hlt2'
              have HF1 := hid f1
              have HF2 := hid f2
              replace f1 := cell_keep hbel f1
              replace f2 := cell_keep hbel f2
              replace v1 := v1.below hbel
              replace v2 := v2.below hbel
              have hon := fun h => take_eq_on hlt2' hlt2 HK2.out h
              have hne : tr[k2] ≠ rs[k2] → tr ≠ rs := fun h e => h (by subst e; rfl)
              have mm1 := M6.out rs[k2] (List.getElem_mem hlt2)
              have mm2 := M5.out tr[k2] (List.getElem_mem hlt2')
              obtain ⟨la, ea⟩ : ∃ l, tr[k2] = l := ⟨_, rfl⟩
              obtain ⟨lb, eb⟩ : ∃ l, rs[k2] = l := ⟨_, rfl⟩
              rw [ea, eb] at hon hne
              rw [ea] at f2 v2 mm2 HF2
              rw [eb] at f1 v1 mm1 HF1
              have Hon := hid hon
              have Hne := hid hne
              have HV1 := hid v1
              have HV2 := hid v2
              clear hcb hcr ea eb hon hne v1 v2 HK2
              by_cases hll : la.length = lb.length
              · have bl : ((la.length : Int) != (lb.length : Int)) = false := by rw [bne_eq_false_iff_eq]; omega
                have HLL := hid hll
                clear hll
                go_wp2
                go_quiet (fail)
                have HB3 := hid (below_drewN HB2.out nq)
                have HV3 := hid (HV1.out.below (below_drewN (Below.refl wr.heap.size wr) nq))
                have HV4 := hid (HV2.out.below (below_drewN (Below.refl wr.heap.size wr) nq))
                clear HV1 HV2 HB2
                generalize wr.drewN nq = wn at *
                clear q0 q1 qlt hbel hsz f1 f2
                obtain ⟨q0, q1, qlt, hbel⟩ := rul_cells HB3.out
                have f1 := cell_keep hbel HF1.out
                go_wp2
                clear q0 q1 qlt hbel f1
                go_loopw [62] (fun i wx => ∃ k : Nat, k ≤ lb.length ∧ i = .int .i64 k ∧ Hid (la.take k = lb.take k) ∧ Hid (Below (w.heap.size + 1) (w.alloc (.cells #[.slice H th.length ch, .slice (some ⟨br, or, none⟩) tr.length cr] 34)) wx) ∧ Hid (VrsAt wx T2 la) ∧ Hid (VrsAt wx T1 lb)) (fun i _ => lb.length - (intOf i).toNat)
                case atStart => exact ⟨0, by omega, rfl, hid (by simp), HB3, HV4, HV3⟩
                case round =>
                  obtain ⟨k3, hk3, rfl, HK3, HB4, HW4, HW3⟩ := hrel
                  clear HB3 HV3 HV4
                  obtain ⟨q0, q1, qlt, hbel⟩ := rul_cells HB4.out
                  have hsz := hbel.size
                  by_cases hlt3 : k3 < lb.length
                  · have hlt3' : k3 < la.length := by have := HLL.out; omega
                    have f1 := cell_keep hbel HF1.out
                    have f2 := cell_keep hbel HF2.out
                    have HW3' := HW3
                    have HW4' := HW4
                    obtain ⟨b3, o3, rfl, hc3⟩ := HW3.out (by omega)
                    obtain ⟨b4, o4, rfl, hc4⟩ := HW4.out (by omega)
                    obtain ⟨g1, g2⟩ := hc3 k3 hlt3
                    obtain ⟨g3, g4⟩ := hc4 k3 hlt3'
                    have hon := fun h => take_eq_on hlt3' hlt3 HK3.out h
                    have hne3 : la[k3] ≠ lb[k3] → la ≠ lb := fun h e => h (by subst e; rfl)
                    obtain ⟨⟨n1, i1⟩, e1⟩ : ∃ x, la[k3] = x := ⟨_, rfl⟩
                    obtain ⟨⟨n2, i2⟩, e2⟩ : ∃ x, lb[k3] = x := ⟨_, rfl⟩
                    rw [e1, e2] at hon hne3
                    rw [e1] at g3 g4
                    rw [e2] at g1 g2
                    have Hon3 := hid hon
                    have Hne3 := hid hne3
                    clear hc3 hc4 e1 e2 hon hne3 HK3
                    simp only at g1 g2 g3 g4
                    obtain ⟨q, hq⟩ : ∃ q : Bool, ((⟨n1.toArray⟩ : ByteArray).toList == (⟨n2.toArray⟩ : ByteArray).toList && i1 == i2) = q := ⟨_, rfl⟩
                    have heq := fun w => eq_vr _ _ _ _ hq w
                    have Hq := hid hq
                    clear hq
                    cases q with
                    | true =>
                      have HN := hid (Hon3.out (pair_on Hq.out))
                      clear Hon3 Hne3 Hq
                      go_wp2
                      go_quiet (fail)
                      have HB5 := hid (below_drewN HB4.out nq)
                      have HX4 := hid (HW4'.out.below (below_drewN (Below.refl wr.heap.size wr) nq))
                      have HX3 := hid (HW3'.out.below (below_drewN (Below.refl wr.heap.size wr) nq))
                      go_wp2
                      go_roundw
                      case rel => exact ⟨k3 + 1, by omega, by go_num, HN, HB5, HX4, HX3⟩
                      case measure => simp [intOf]; omega
                    | false =>
                      have hx : b = false := by rw [← HB.out]; exact decide_eq_false (fun e => Hne.out (Hne3.out (pair_off Hq.out)) e.2)
                      subst hx
                      clear Hon3 Hne3 Hq Hon Hne
                      go_wp2
                      go_quiet (fail)
                      go_wp2
                      go_ret
                      exact ⟨rfl, below_drewN hbel nq⟩
                  · have hee : la = lb := take_eq_end (by have := HLL.out; omega) HLL.out HK3.out
                    have HN := hid (Hon.out hee)
                    clear hee HK3 Hon Hne
                    go_wp2
                    go_roundw
                    case rel => exact ⟨k2 + 1, by omega, by go_num, HN, HB4⟩
                    case measure => simp [intOf]; omega
              · have bl : ((la.length : Int) != (lb.length : Int)) = true := by rw [bne_iff_ne]; omega
                have hx : b = false := by rw [← HB.out]; exact decide_eq_false (fun e => Hne.out (fun e2 => hll (by rw [e2])) e.2)
                subst hx
                clear Hon Hne hll
                go_wp2
                go_quiet (fail)
                go_wp2
                go_ret
                exact ⟨rfl, below_drewN hbel nq⟩
            · have hre : tr = rs := take_eq_end (by have := HL2.out; omega) HL2.out HK2.out
              have hx : b = true := by rw [← HB.out]; exact decide_eq_true ⟨HHE.out, hre⟩
              subst hx
              clear HK2 hre
              go_wp2
              go_ret
              exact ⟨rfl, hbel⟩
    · have b2 : ((tr.length : Int) != (rs.length : Int)) = true := by rw [bne_iff_ne]; omega
      have hx : b = false := by rw [← HB.out]; exact decide_eq_false (fun e => hl2 (by rw [e.2]))
      subst hx
      clear hl1 hl2
      go_enter Try.func15, Try.ntmps15
      go_wp2
      go_ret
      exact ⟨rfl, hb0⟩
  · have b1 : ((th.length : Int) != (hs.length : Int)) = true := by rw [bne_iff_ne]; omega
    have hx : b = false := by rw [← HB.out]; exact decide_eq_false (fun e => hl1 (by rw [e.1]))
    subst hx
    clear hl1
    go_enter Try.func15, Try.ntmps15
    go_wp2
    go_ret
    exact ⟨rfl, hb0⟩
end Go.Proofs.Ytgeapgbebbapmaa
