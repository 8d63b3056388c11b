/-
  PARTS of a claim, merged by segs.py: PsY.
-/
import Derived.Test.YtnbacdmlaedppaaGreatDoorQ41
import Derived.Test.YtnbacdmlaedppaaGreatDoorQ37
import Derived.StillTailTactics
import Derived.Deep.RegionLaw
namespace Go.Proofs.YtnbacdmlaedppaaGreatDoor

/-! ### PsY -/
section
open Go.RowKit

theorem below_set {w w' : World} {o : Nat} {v : Value} (h : Below w.heap.size w w') : Below w.heap.size w (w'.setCell ⟨w.heap.size, o, none⟩ v) := h.setCell (p := ⟨w.heap.size, o, none⟩) (Nat.le_refl _) v
set_option maxRecDepth 100000 in
set_option maxHeartbeats 4000000 in
theorem ref_parse20 (s : ByteArray) (w : World) (hs : s.size ≤ 990) {t : List Tok × Int × Int} (ht : scanL s.data.toList = t) {x : Qry × Int × Int} (hx : parseQ [] t = x) :
    Calls Tryz.prog 11 #[.string s] w (RetPa w x) := by
  obtain ⟨L, ta, te⟩ := t
  have k0 := below_one w (.cells qryZ 27)
  have hz := heap_alloc_new w (.cells qryZ 27)
  have HSc := hid (ref_scan3 s (w.alloc (.cells qryZ 27)) (by omega) ht)
  have hlen : s.data.toList.length = s.size := by simp
  by_cases he : te = 0
  · subst he
    obtain ⟨hsc, hta, _⟩ := scanL_ok ht
    have hEn := hsc.ended
    have hfew := hsc.head
    have hTk := hsc.tkOk (by omega)
    have hlits := hsc.lits
    subst hta
    obtain ⟨o, ho⟩ : ∃ o, queryS (tkL L) L.length = o := ⟨_, rfl⟩
    have hgram : gramQ L = match fullS (tkL L) o with
      | .bad e => (Q0, (tkL L e).a, 21)
      | .ok q _ => (q, 0, 0) := by unfold gramQ; rw [ho]; rfl
    have hfew2 : L.length ≤ 1000 := by omega
    have HTk := hid (fun V A (h : TokAt V A (ext3 L)) => (show RefTk V A L from ⟨h, hEn, hfew2, fun i => (show (tkL L i).t.length ≤ 100000 from by
      have hp := hEn.pos
      have hm : min i (L.length - 1) < L.length := by omega
      have := tok_le hsc hm
      unfold tkL
      rw [List.getD_eq_getElem?_getD, List.getElem?_eq_getElem hm]
      show L[min i (L.length - 1)].t.length ≤ _
      omega), fun i hk => hlits _ (tkL_mem hEn i) hk⟩))
    have HQu := hid (fun V A c (h : TokAt V A (ext3 L)) => ref_query A c (L.length + 3) L V (HTk.out V A h) rfl ho)
    have HOk := hid (fun q nx (e : o = .ok q nx) => And.intro (queryS_ok hTk (ho.trans e)) (show nx < L.length + 3 from by
      have := ho.trans e
      unfold queryS at this
      split at this
      · cases this
      · rename_i q0 n0 h0
        split at this
        · cases this
        · rename_i rs n1 h1
          have hr : n1 < L.length := by
            have key : ∀ (f i : Nat) (acc b : List Rul) (n : Nat), rulesS (tkL L) L.length f i acc = .ok b n → n < L.length := by
              intro f
              induction f with
              | zero => intro i acc b n e; cases e
              | succ f ih =>
                intro i acc b n e
                unfold rulesS at e
                split at e
                · cases e
                · rename_i r n2 h2
                  split at e
                  · exact ih _ _ _ _ e
                  · injection e with _ e; have := (ruleS_nx hEn h2).2; omega
            exact key _ _ _ _ _ h1
          split at this
          · split at this
            · cases this
            · rename_i ks n2 h2
              injection this with _ e2
              have := (keysS_nx hEn h2).2
              omega
          · injection this with _ e2; omega))
    have HBd := hid (fun b (e : o = .bad b) => queryS_bad hEn (ho.trans e))
    have HEn := hid hEn
    have HGr := hid hgram
    have HX := hid hx
    clear ht hsc hEn hTk ho hgram hfew hx hlits HTk
    go_enter Tryz.func11, Tryz.ntmps11
    go_wp2_with fail
    refine HSc.out.mono ?_
    rintro e w1 ⟨h1, b1⟩
    rw [if_pos rfl] at h1
    obtain ⟨A, c, rfl, hT, hAb⟩ := h1
    simp only [World.size_alloc] at hAb
    have HAb := hid hAb
    clear hAb
    have k1 := k0.trans (b1.mono k0.size)
    have hz1 := res_keep hz b1 (by simp)
    have hs1 : w.heap.size + 1 ≤ w1.heap.size := by have := b1.size; simp at this; omega
    have HQ1 := hid (HQu.out w1 A c hT)
    have HT := hid hT
    have HZ1 := hid hz1
    have K1 := hid k1
    clear hT b1 k1 hz1 hz k0 HSc HQu
    go_wp2_with fail
    refine HQ1.out.mono ?_
    rintro e w2 ⟨hm, b2⟩
    have K2 := hid (K1.out.trans (b2.mono K1.out.size))
    have HZ2 := hid ((b2.block _ (by omega)).trans HZ1.out)
    have hs2 := b2.size
    have B2 := hid b2
    clear b2 HQ1 HZ1 K1
    cases o with
    | bad b =>
      have hg : gramQ L = (Q0, (tkL L b).a, 21) := HGr.out
      have hx2 : x = (Q0, (tkL L b).a, 21) := by rw [← HX.out]; simp [parseQ, hg]
      subst hx2
      have hbl := HBd.out b rfl
      obtain ⟨H, n, c', a, nx, gs, R, nr, cr, O, no, co, rfl⟩ := hm
      have kb := below_one w2 (.cells (qyC H n c' a gs R nr cr O no co) 27)
      have HK3 := hid (And.intro ((kb.block _ (by omega)).trans HZ2.out) (B2.out.trans (kb.mono (by omega))))
      have K3 := K2.out.trans (kb.mono K2.out.size)
      obtain ⟨b', o', hA, hcl⟩ := HT.out (by rw [ext3_len]; omega)
      have hil : b < (ext3 L).length := by rw [ext3_len]; omega
      have ha := (hcl b hil).2.2.2.2.2
      have hk := (hcl b hil).1
      rw [ext3_at HEn.out hil] at ha hk
      subst hA
      have hbb := HAb.out _ rfl
      simp only at hbb
      have ha2 := cell_keep HK3.out.2 ha
      have hk2 := cell_keep HK3.out.2 hk
      have hi1 : ((b : Nat) : Int) < (L.length : Int) + 3 := by omega
      have hi2 : decide (((b : Nat) : Int) < 0) = false := decide_eq_false (by omega)
      have hi3 : decide (0 ≤ ((b : Nat) : Int)) = true := decide_eq_true (by omega)
      clear ha hk hcl
      clear HX HGr hg kb K2 HZ2 B2 HT HBd HOk HEn hk2
      generalize (tkL L b).a = ta' at *
      go_wp2_with fail
      generalize w2.alloc (.cells #[.slice H n c', .int .i64 a, .string gs, .slice R nr cr, .slice O no co] 27) = w3 at *
      go_wp2
      have hz4 := HK3.out.1
      have hbl3 := lt_of_block hz4
      have K4 := hid K3
      have hal := cell_lt ha2
      have hbne : b' ≠ w.heap.size := by omega
      have q0 := box_cell hz4 0
      have q1 := box_cell hz4 1
      have q2 := box_cell hz4 2
      have q3 := box_cell hz4 3
      have q4 := box_cell hz4 4
      have f0 := box_free hz4 0
      have f1 := box_free hz4 1
      have f2 := box_free hz4 2
      have f3 := box_free hz4 3
      have f4 := box_free hz4 4
      clear K3 HK3 hz4
      go_region_law (fail)
      all_goals
        go_wp2_with fail
        refine bodyPost_ret (by simp [results, Tryz.results11, go_sem, q0, q1, q2, q3, q4]; rfl) rfl ?_
        exact retPa_zero (Below.drew (below_set (below_set (below_set (below_set (below_set K4.out))))))
    | ok q nx =>
      obtain ⟨hok, hnl⟩ := HOk.out q nx rfl
      obtain ⟨H, ch, R, cr, O, co, rfl, hO⟩ := hm
      have kb := below_one w2 (.cells (qyC H q.head.length ch q.agg ⟨q.aggVar.toArray⟩ R q.rules.length cr O q.order.length co) 27)
      have HK3 := hid (And.intro ((kb.block _ (by omega)).trans HZ2.out) (B2.out.trans (kb.mono (by omega))))
      have K3 := K2.out.trans (kb.mono K2.out.size)
      have HOw := hid (hO.below kb)
      have HOk2 := hid hok
      obtain ⟨b', o', hA, hcl⟩ := HT.out (by rw [ext3_len]; omega)
      have hil : nx < (ext3 L).length := by rw [ext3_len]; omega
      have ha := (hcl nx hil).2.2.2.2.2
      have hk := (hcl nx hil).1
      rw [ext3_at HEn.out hil] at ha hk
      subst hA
      have hbb := HAb.out _ rfl
      simp only at hbb
      have ha2 := cell_keep HK3.out.2 ha
      have hk2 := cell_keep HK3.out.2 hk
      have hi1 : ((nx : Nat) : Int) < (L.length : Int) + 3 := by omega
      have hi2 : decide (((nx : Nat) : Int) < 0) = false := decide_eq_false (by omega)
      have hi3 : decide (0 ≤ ((nx : Nat) : Int)) = true := decide_eq_true (by omega)
      clear ha hk hcl
      have hgr := HGr.out
      unfold fullS at hgr
      clear HGr kb K2 HZ2 B2 HT HBd HOk hO hok
      by_cases hk0 : (tkL L nx).k = 0
      · have hg : gramQ L = (q, 0, 0) := by rw [hgr]; simp only; rw [if_pos hk0]
        have hx2 : x = (q, 0, 0) := by rw [← HX.out]; simp [parseQ, hg]
        subst hx2
        rw [hk0] at hk2
        have d0 := box_cell (heap_alloc_new w2 (.cells (qyC H q.head.length ch q.agg ⟨q.aggVar.toArray⟩ R q.rules.length cr O q.order.length co) 27)) 0
        have hz3 := HK3.out.1
        have HKd := hid K3
        clear HX hgr hg hk0 HEn d0 ha2 K3
        go_wp2_with (refine wpList_stored2 rfl rfl rfl rfl hz3 infoQyP rfl rfl ?_; intro w9 hz9 hg9)
        refine bodyPost_ret (by simp [results, Tryz.results11, go_sem, cell_res hz9]; rfl) rfl ?_
        exact ⟨H, R, O, ch, cr, co, rfl, own_qry (HOw.out.far hg9 (by omega)) (HOk2.out.some (by omega)), HOk2.out.wf, HKd.out.trans (grown_below' hg9 (Nat.le_refl _) HKd.out.size)⟩
      · have hg : gramQ L = (Q0, (tkL L nx).a, 21) := by rw [hgr]; simp only; rw [if_neg hk0]
        have hx2 : x = (Q0, (tkL L nx).a, 21) := by rw [← HX.out]; simp [parseQ, hg]
        subst hx2
        have hkb : ((tkL L nx).k != 0) = true := by simpa using hk0
        clear HX hgr hg hk0 HEn HOw HOk2
        generalize (tkL L nx).a = ta' at *
        generalize (tkL L nx).k = tk' at *
        go_wp2_with fail
        generalize w2.alloc (.cells #[.slice H q.head.length ch, .int .i64 q.agg, .string ⟨q.aggVar.toArray⟩, .slice R q.rules.length cr, .slice O q.order.length co] 27) = w3 at *
        go_wp2
        have hz4 := HK3.out.1
        have hbl3 := lt_of_block hz4
        have K4 := hid K3
        have hal := cell_lt ha2
        have hbne : b' ≠ w.heap.size := by omega
        have q0 := box_cell hz4 0
        have q1 := box_cell hz4 1
        have q2 := box_cell hz4 2
        have q3 := box_cell hz4 3
        have q4 := box_cell hz4 4
        have f0 := box_free hz4 0
        have f1 := box_free hz4 1
        have f2 := box_free hz4 2
        have f3 := box_free hz4 3
        have f4 := box_free hz4 4
        clear K3 HK3 hz4
        go_region_law (fail)
        all_goals
          go_wp2_with fail
          refine bodyPost_ret (by simp [results, Tryz.results11, go_sem, q0, q1, q2, q3, q4]; rfl) rfl ?_
          exact retPa_zero (Below.drew (below_set (below_set (below_set (below_set (below_set K4.out))))))
  · have hx2 : x = (Q0, ta, te) := by rw [← hx]; simp [parseQ, he]
    subst hx2
    have hb0 : (te != 0) = true := by simpa using he
    have HE := hid he
    clear ht hx he
    go_enter Tryz.func11, Tryz.ntmps11
    go_wp2_with fail
    refine HSc.out.mono ?_
    rintro e w1 ⟨h1, b1⟩
    rw [if_neg HE.out] at h1
    subst h1
    have hz1 := res_keep hz b1 (by simp)
    have K1 := hid (k0.trans (b1.mono k0.size))
    clear b1 hz k0 HSc
    go_wp2_with (refine wpList_store_res rfl rfl rfl rfl hz1 infoQyP rfl rfl ?_; intro w9 hz9 hb9)
    refine bodyPost_ret (by simp [results, Tryz.results11, go_sem, cell_res hz9]; rfl) rfl ?_
    exact retPa_zero (K1.out.trans hb9)
end
end Go.Proofs.YtnbacdmlaedppaaGreatDoor
