/-
  WALK: the document's Same of layer 19, at two copies of one query.
-/
import Derived.Test.YtgeapgbebbapmaaDoorSm3
namespace Go.Proofs.YtgeapgbebbapmaaDoor
open Go.RowKit

set_option maxRecDepth 100000 in
set_option maxHeartbeats 8000000 in
theorem ref_same (q : Qry) (A R O A' R' O' : Option Addr) (ch cr co ch' cr' co' : Nat) (w : World) (h : QryIn w q A R O ch cr co) (h' : QryIn w q A' R' O' ch' cr' co') :
    Calls Tryd.prog 18 #[qryV q A R O ch cr co, qryV q A' R' O' ch' cr' co'] w fun e w' => e = .returned (.bool true) ∧ Below w.heap.size w w' := by
  have HQ := hid h
  have HQ' := hid h'
  have C1 := fun W (b : Below w.heap.size w W) => hid (same_strings A A' ch ch' q.head W (HQ.out.head.below b) (HQ'.out.head.below b) HQ.out.mh)
  have C2 := fun W (b : Below w.heap.size w W) => hid (same_keys O O' co co' q.order W (HQ.out.order.below b) (HQ'.out.order.below b) HQ.out.mo)
  have C3 := fun W T1 T2 T3 T4 c1 c2 c3 c4 (r : Rul) (h1 : AtmsAt W T1 r.atoms) (h2 : AtmsAt W T2 r.atoms) (h3 : CndsAt W T3 r.conds) (h4 : CndsAt W T4 r.conds) (hm : r.atoms.length ≤ 9223372036854775807) (hm' : r.conds.length ≤ 9223372036854775807) => hid (same_rule r T1 T2 T3 T4 c1 c2 c3 c4 W h1 h2 h3 h4 hm hm')
  have HR := hid h.rules
  have HR' := hid h'.rules
  have hmr := h.mr
  have hmo := h.mo
  unfold qryV
  obtain ⟨Y, hY⟩ : ∃ Y : ByteArray, (⟨q.aggVar.toArray⟩ : ByteArray) = Y := ⟨_, rfl⟩
  rw [hY]
  clear hY h h' HQ HQ'
  obtain ⟨hd, ga, av, rs, os⟩ := q
  simp only at *
  have hyy : (Y.toList == Y.toList) = true := by simp
  obtain ⟨nh, enh⟩ : ∃ n, hd.length = n := ⟨_, rfl⟩
  obtain ⟨no, eno⟩ : ∃ n, os.length = n := ⟨_, rfl⟩
  obtain ⟨nr, enr⟩ : ∃ n, rs.length = n := ⟨_, rfl⟩
  have HNR := hid enr
  rw [enh] at C1
  rw [eno] at C2
  rw [enh, eno, enr]
  rw [enr] at hmr
  clear enh eno enr
  have HB0 : Hid (Below (w.heap.size + 2) ((w.alloc (.cells #[.slice A nh ch, .int .i64 ga, .string Y, .slice R nr cr, .slice O no co] 26)).alloc (.cells #[.slice A' nh ch', .int .i64 ga, .string Y, .slice R' nr cr', .slice O' no co'] 26)) ((w.alloc (.cells #[.slice A nh ch, .int .i64 ga, .string Y, .slice R nr cr, .slice O no co] 26)).alloc (.cells #[.slice A' nh ch', .int .i64 ga, .string Y, .slice R' nr cr', .slice O' no co'] 26))) := hid (Below.refl _ _)
  have HBB := hid (two_blocks19 HB0.out).2.2.2
  have hal : w.heap.size + 1 < ((w.alloc (.cells #[.slice A nh ch, .int .i64 ga, .string Y, .slice R nr cr, .slice O no co] 26)).alloc (.cells #[.slice A' nh ch', .int .i64 ga, .string Y, .slice R' nr cr', .slice O' no co'] 26)).heap.size := by have := (two_blocks19 HB0.out).2.2.1; omega
  obtain ⟨b0, b1, _, _⟩ := two_blocks19 HB0.out
  have r0 := coh b0 (o := 0) rfl
  have r1 := coh b1 (o := 0) rfl
  clear b0 b1
  go_enter Tryd.func18, Tryd.ntmps18
  go_wp2_with fail
  refine (C1 _ HBB.out).out.mono ?_
  rintro e w1 ⟨rfl, b1⟩
  have HB1 := hid (HB0.out.trans (b1.mono (by simp)))
  clear C1 b1 HBB r0 r1 hal
  obtain ⟨b0, b1, bsz, hbel⟩ := two_blocks19 HB1.out
  have r0 := coh b0 (o := 0) rfl
  have r1 := coh b0 (o := 1) rfl
  have r2 := coh b0 (o := 2) rfl
  have r3 := coh b0 (o := 3) rfl
  have r4 := coh b0 (o := 4) rfl
  have s0 := coh b1 (o := 0) rfl
  have s1 := coh b1 (o := 1) rfl
  have s2 := coh b1 (o := 2) rfl
  have s3 := coh b1 (o := 3) rfl
  have s4 := coh b1 (o := 4) rfl
  have l0 : w.heap.size < w1.heap.size := by omega
  have l1 : w.heap.size + 1 < w1.heap.size := by omega
  clear b0 b1
  go_wp2_with fail
  refine (C2 _ hbel).out.mono ?_
  rintro e w2 ⟨rfl, b2⟩
  have HB2 := hid (HB1.out.trans (b2.mono bsz))
  clear C2 b2 hbel bsz r0 r1 r2 r3 r4 s0 s1 s2 s3 s4 l0 l1 HB1 HB0
  go_wp2
  go_loopw [5] (fun i wr => ∃ k : Nat, k ≤ nr ∧ i = .int .i64 k ∧ Hid (Below (w.heap.size + 2) ((w.alloc (.cells #[.slice A nh ch, .int .i64 ga, .string Y, .slice R nr cr, .slice O no co] 26)).alloc (.cells #[.slice A' nh ch', .int .i64 ga, .string Y, .slice R' nr cr', .slice O' no co'] 26)) wr)) (fun i _ => nr - (intOf i).toNat)
  case atStart => exact ⟨0, by omega, rfl, HB2⟩
  case round =>
    clear HB2
    obtain ⟨k, hk, rfl, HB⟩ := hrel
    obtain ⟨b0, b1, bsz, hbel⟩ := two_blocks19 HB.out
    have r3 := coh b0 (o := 3) rfl
    have s3 := coh b1 (o := 3) rfl
    have l0 : w.heap.size < wr.heap.size := by omega
    have l1 : w.heap.size + 1 < wr.heap.size := by omega
    clear b0 b1
    by_cases hlt : k < nr
    · have hll : k < rs.length := by rw [HNR.out]; exact hlt
      obtain ⟨b, o, rfl, hc⟩ := HR.out (by omega)
      obtain ⟨b', o', rfl, hc'⟩ := HR'.out (by omega)
      obtain ⟨T1, c1, T3, c3, d0, d1, ha, hcn, _, _, ma, mc⟩ := hc k hll
      obtain ⟨T2, c2, T4, c4, e0, e1, ha', hcn', _, _, _, _⟩ := hc' k hll
      have CR := fun (p : BelowBy wr) => C3 p.to T1 T2 T3 T4 c1 c2 c3 c4 rs[k] (ha.below (hbel.trans (p.le.mono hbel.size))) (ha'.below (hbel.trans (p.le.mono hbel.size))) (hcn.below (hbel.trans (p.le.mono hbel.size))) (hcn'.below (hbel.trans (p.le.mono hbel.size))) ma mc
      replace d0 := cell_keep hbel d0
      replace d1 := cell_keep hbel d1
      replace e0 := cell_keep hbel e0
      replace e1 := cell_keep hbel e1
      obtain ⟨n1, en1⟩ : ∃ n, rs[k].atoms.length = n := ⟨_, rfl⟩
      obtain ⟨n2, en2⟩ : ∃ n, rs[k].conds.length = n := ⟨_, rfl⟩
      rw [en1] at d0 e0
      rw [en2] at d1 e1
      replace d0 := fun p : BelowBy wr => by_cell d0 p
      replace d1 := fun p : BelowBy wr => by_cell d1 p
      replace e0 := fun p : BelowBy wr => by_cell e0 p
      replace e1 := fun p : BelowBy wr => by_cell e1 p
      have R3 := fun p : BelowBy wr => by_cell r3 p
      have S3 := fun p : BelowBy wr => by_cell s3 p
      have L0 := fun p : BelowBy wr => Nat.lt_of_lt_of_le l0 p.le.size
      have L1 := fun p : BelowBy wr => Nat.lt_of_lt_of_le l1 p.le.size
      have CS : ∀ p : BelowBy wr, Hid (Calls Tryd.prog 49 #[.agg #[.slice T1 n1 c1, .slice T3 n2 c3], .agg #[.slice T2 n1 c2, .slice T4 n2 c4]] p.to fun e w' => e = .returned (.bool true) ∧ Below p.to.heap.size p.to w') := fun p => hid (by have := (CR p).out; rw [en1, en2] at this; exact this)
      clear hc hc' ha ha' hcn hcn' CR C3 en1 en2 ma mc
      go_upto_region 6 with fail
      clear r3 s3 l0 l1
      refine wp_region_below (by kernel_rfl) (by kernel_rfl) ?_
      repeat (go_big_quiet_step (first | with_reducible exact calls_by (CS _).out))
      refine wpQuiet_nil ?_
      rintro wq ⟨⟨wqx, kq⟩, rfl⟩
      have HB2 := hid (HB.out.trans (kq.mono (by omega)))
      go_wp2
      go_roundw
      case rel => exact ⟨k + 1, by omega, by go_num, HB2⟩
      case measure => simp [intOf]; omega
    · go_wp2
      go_ret
      exact ⟨rfl, hbel⟩
end Go.Proofs.YtgeapgbebbapmaaDoor
