/-
  PARTS of a claim, merged by segs.py: PsV, PgX.
-/
import Derived.Test.YtnbacdmlaedppaaGreatDoorQ42
import Derived.Test.YtnbacdmlaedppaaGreatDoorQ47
import Derived.Test.YtnbacdmlaedppaaGreatDoorQ37
import Derived.Test.YtnbacdmlaedppaaGreatDoorQ44
import Derived.Deep.RegionHeld3
namespace Go.Proofs.YtnbacdmlaedppaaGreatDoor

/-! ### PsV -/
section
open Go.RowKit

/-- What the document's Rule answers. -/
def parseRq (x : List Tok × Int × Int) : Rul × Int × Int := if x.2.2 = 0 then gramR x.1 else (R0, x.2.1, x.2.2)
set_option maxRecDepth 100000 in
set_option maxHeartbeats 4000000 in
theorem ref_rule20 (s : ByteArray) (w : World) (hs : s.size ≤ 990) {t : List Tok × Int × Int} (ht : scanL s.data.toList = t) {x : Rul × Int × Int} (hx : parseRq t = x) :
    Calls Tryz.prog 15 #[.string s] w (RetPr w x) := by
  obtain ⟨L, ta, te⟩ := t
  have k0 := below_one w (.cells rulZ 42)
  have hz := heap_alloc_new w (.cells rulZ 42)
  have HSc := hid (ref_scan3 s (w.alloc (.cells rulZ 42)) (by omega) ht)
  have hlen : s.data.toList.length = s.size := by simp
  by_cases he : te = 0
  · subst he
    obtain ⟨hsc, hta, _⟩ := scanL_ok ht
    have hEn := hsc.ended
    have hfew := hsc.head
    have hTk := hsc.tkOk (by omega)
    have hlits := hsc.lits
    subst hta
    obtain ⟨o, ho⟩ : ∃ o, ruleG (tkL L) L.length L.length 0 R0 = o := ⟨_, rfl⟩
    have hgram : gramR L = match fullS (tkL L) o with
      | .bad e => (R0, (tkL L e).a, 21)
      | .ok q _ => (q, 0, 0) := by unfold gramR; rw [ho]; rfl
    have hfew2 : L.length ≤ 1000 := by omega
    have HTk := hid (fun V A (h : TokAt V A (ext3 L)) => (show RefTk V A L from ⟨h, hEn, hfew2, fun i => (show (tkL L i).t.length ≤ 100000 from by
      have hp := hEn.pos
      have hm : min i (L.length - 1) < L.length := by omega
      have := tok_le hsc hm
      unfold tkL
      rw [List.getD_eq_getElem?_getD, List.getElem?_eq_getElem hm]
      show L[min i (L.length - 1)].t.length ≤ _
      omega), fun i hk => hlits _ (tkL_mem hEn i) hk⟩))
    have HQu := hid (fun V A c (h : TokAt V A (ext3 L)) => ref_rule A c (L.length + 3) 0 L V (HTk.out V A h) hEn.pos rfl ho)
    have HOk := hid (fun q nx (e : o = .ok q nx) => And.intro (ruleS_ok hTk (ho.trans e) (RulOkN.nil L.length)) (show nx < L.length + 3 from by have := (ruleS_nx hEn (ho.trans e)).2; omega))
    have HBd := hid (fun b (e : o = .bad b) => ruleG_bad hEn hEn.pos (ho.trans e))
    have HEn := hid hEn
    have HGr := hid hgram
    have HX := hid hx
    clear ht hsc hEn hTk ho hgram hfew hx hlits HTk
    go_enter Tryz.func15, Tryz.ntmps15
    go_wp2_with fail
    refine HSc.out.mono ?_
    rintro e w1 ⟨h1, b1⟩
    rw [if_pos rfl] at h1
    obtain ⟨A, c, rfl, hT, hAb⟩ := h1
    simp only [World.size_alloc] at hAb
    have HAb := hid hAb
    clear hAb
    have k1 := k0.trans (b1.mono k0.size)
    have hz1 := res_keep hz b1 (by simp)
    have hs1 : w.heap.size + 1 ≤ w1.heap.size := by have := b1.size; simp at this; omega
    have HQ1 := hid (HQu.out w1 A c hT)
    have HT := hid hT
    have HZ1 := hid hz1
    have K1 := hid k1
    clear hT b1 k1 hz1 hz k0 HSc HQu
    go_wp2_with fail
    refine HQ1.out.mono ?_
    rintro e w2 ⟨hm, b2⟩
    have K2 := hid (K1.out.trans (b2.mono K1.out.size))
    have HZ2 := hid ((b2.block _ (by omega)).trans HZ1.out)
    have hs2 := b2.size
    have B2 := hid b2
    clear b2 HQ1 HZ1 K1
    cases o with
    | bad b =>
      have hg : gramR L = (R0, (tkL L b).a, 21) := HGr.out
      have hx2 : x = (R0, (tkL L b).a, 21) := by rw [← HX.out]; simp [parseRq, hg]
      subst hx2
      have hbl := HBd.out b rfl
      obtain ⟨T1, n1, c1, T2, n2, c2, nx, rfl⟩ := hm
      have kb := below_one w2 (.cells #[.slice T1 n1 c1, .slice T2 n2 c2] 42)
      have HK3 := hid (And.intro ((kb.block _ (by omega)).trans HZ2.out) (B2.out.trans (kb.mono (by omega))))
      have K3 := K2.out.trans (kb.mono K2.out.size)
      obtain ⟨b', o', hA, hcl⟩ := HT.out (by rw [ext3_len]; omega)
      have hil : b < (ext3 L).length := by rw [ext3_len]; omega
      have ha := (hcl b hil).2.2.2.2.2
      have hk := (hcl b hil).1
      rw [ext3_at HEn.out hil] at ha hk
      subst hA
      have hbb := HAb.out _ rfl
      simp only at hbb
      have ha2 := cell_keep HK3.out.2 ha
      have hk2 := cell_keep HK3.out.2 hk
      have hi1 : ((b : Nat) : Int) < (L.length : Int) + 3 := by omega
      have hi2 : decide (((b : Nat) : Int) < 0) = false := decide_eq_false (by omega)
      have hi3 : decide (0 ≤ ((b : Nat) : Int)) = true := decide_eq_true (by omega)
      clear ha hk hcl
      clear HX HGr hg kb K2 HZ2 B2 HT HBd HOk HEn hk2
      generalize (tkL L b).a = ta' at *
      go_wp2_with fail
      generalize w2.alloc (.cells #[.slice T1 n1 c1, .slice T2 n2 c2] 42) = w3 at *
      go_wp2
      have hz4 := HK3.out.1
      have hbl3 := lt_of_block hz4
      have K4 := hid K3
      have hal := cell_lt ha2
      have hbne : b' ≠ w.heap.size := by omega
      have q0 := box_cell hz4 0
      have q1 := box_cell hz4 1
      have f0 := box_free hz4 0
      have f1 := box_free hz4 1
      clear K3 HK3 hz4
      go_region_law (fail)
      all_goals
        go_wp2_with fail
        refine bodyPost_ret (by simp [results, Tryz.results15, go_sem, q0, q1]; rfl) rfl ?_
        exact retPr_zero (Below.drew (below_set (below_set K4.out)))
    | ok q nx =>
      obtain ⟨hok, hnl⟩ := HOk.out q nx rfl
      obtain ⟨ua, uc, rfl, hO⟩ := hm
      obtain ⟨T1, c1, T2, c2, rfl, rfl⟩ := hO.shape
      have kb := below_one w2 (.cells #[.slice T1 q.atoms.length c1, .slice T2 q.conds.length c2] 42)
      have HK3 := hid (And.intro ((kb.block _ (by omega)).trans HZ2.out) (B2.out.trans (kb.mono (by omega))))
      have K3 := K2.out.trans (kb.mono K2.out.size)
      have HOw := hid (hO.below kb)
      have HOk2 := hid hok
      obtain ⟨b', o', hA, hcl⟩ := HT.out (by rw [ext3_len]; omega)
      have hil : nx < (ext3 L).length := by rw [ext3_len]; omega
      have ha := (hcl nx hil).2.2.2.2.2
      have hk := (hcl nx hil).1
      rw [ext3_at HEn.out hil] at ha hk
      subst hA
      have hbb := HAb.out _ rfl
      simp only at hbb
      have ha2 := cell_keep HK3.out.2 ha
      have hk2 := cell_keep HK3.out.2 hk
      have hi1 : ((nx : Nat) : Int) < (L.length : Int) + 3 := by omega
      have hi2 : decide (((nx : Nat) : Int) < 0) = false := decide_eq_false (by omega)
      have hi3 : decide (0 ≤ ((nx : Nat) : Int)) = true := decide_eq_true (by omega)
      clear ha hk hcl
      have hgr := HGr.out
      unfold fullS at hgr
      clear HGr kb K2 HZ2 B2 HT HBd HOk hO hok
      by_cases hk0 : (tkL L nx).k = 0
      · have hg : gramR L = (q, 0, 0) := by rw [hgr]; simp only; rw [if_pos hk0]
        have hx2 : x = (q, 0, 0) := by rw [← HX.out]; simp [parseRq, hg]
        subst hx2
        rw [hk0] at hk2
        have d0 := box_cell (heap_alloc_new w2 (.cells #[.slice T1 q.atoms.length c1, .slice T2 q.conds.length c2] 42)) 0
        have hz3 := HK3.out.1
        have HKd := hid K3
        clear HX hgr hg hk0 HEn d0 ha2 K3
        go_wp2_with (refine wpList_stored2 rfl rfl rfl rfl hz3 infoRlP rfl rfl ?_; intro w9 hz9 hg9)
        refine bodyPost_ret (by simp [results, Tryz.results15, go_sem, cell_res hz9]; rfl) rfl ?_
        exact ⟨T1, T2, c1, c2, rfl, own_rul (HOw.out.far hg9 (by omega)) ⟨Nat.le_trans HOk2.out.a (by omega), Nat.le_trans HOk2.out.c (by omega), fun a ha => Nat.le_trans (HOk2.out.t a ha) (by omega)⟩, HOk2.out.wf, HKd.out.trans (grown_below' hg9 (Nat.le_refl _) HKd.out.size)⟩
      · have hg : gramR L = (R0, (tkL L nx).a, 21) := by rw [hgr]; simp only; rw [if_neg hk0]
        have hx2 : x = (R0, (tkL L nx).a, 21) := by rw [← HX.out]; simp [parseRq, hg]
        subst hx2
        have hkb : ((tkL L nx).k != 0) = true := by simpa using hk0
        clear HX hgr hg hk0 HEn HOw HOk2
        generalize (tkL L nx).a = ta' at *
        generalize (tkL L nx).k = tk' at *
        go_wp2_with fail
        generalize w2.alloc (.cells #[.slice T1 q.atoms.length c1, .slice T2 q.conds.length c2] 42) = w3 at *
        go_wp2
        have hz4 := HK3.out.1
        have hbl3 := lt_of_block hz4
        have K4 := hid K3
        have hal := cell_lt ha2
        have hbne : b' ≠ w.heap.size := by omega
        have q0 := box_cell hz4 0
        have q1 := box_cell hz4 1
        have f0 := box_free hz4 0
        have f1 := box_free hz4 1
        clear K3 HK3 hz4
        go_region_law (fail)
        all_goals
          go_wp2_with fail
          refine bodyPost_ret (by simp [results, Tryz.results15, go_sem, q0, q1]; rfl) rfl ?_
          exact retPr_zero (Below.drew (below_set (below_set K4.out)))
  · have hx2 : x = (R0, ta, te) := by rw [← hx]; simp [parseRq, he]
    subst hx2
    have hb0 : (te != 0) = true := by simpa using he
    have HE := hid he
    clear ht hx he
    go_enter Tryz.func15, Tryz.ntmps15
    go_wp2_with fail
    refine HSc.out.mono ?_
    rintro e w1 ⟨h1, b1⟩
    rw [if_neg HE.out] at h1
    subst h1
    have hz1 := res_keep hz b1 (by simp)
    have K1 := hid (k0.trans (b1.mono k0.size))
    clear b1 hz k0 HSc
    go_wp2_with (refine wpList_store_res rfl rfl rfl rfl hz1 infoRlP rfl rfl ?_; intro w9 hz9 hb9)
    refine bodyPost_ret (by simp [results, Tryz.results15, go_sem, cell_res hz9]; rfl) rfl ?_
    exact retPr_zero (K1.out.trans hb9)
end

/-! ### PgX -/
section
open Go.RowKit

set_option maxRecDepth 100000 in
set_option maxHeartbeats 1000000 in
theorem law_alone (r : Rul) (T T' : Option Addr) (c c' : Nat) (W : World) (h : RuleIn W r T T' c c') :
    Calls Tryz.prog 16 #[.agg #[.slice T r.atoms.length c, .slice T' r.conds.length c']] W fun e w' => ∃ g, e = .returned (.agg #[.slice none 0 0, .int .i64 0, .string ⟨#[]⟩, .slice (some ⟨g, 0, none⟩) 1 1, .slice none 0 0]) ∧ QryIn w' (rulQ r) none (some ⟨g, 0, none⟩) none 0 1 0 ∧ Below W.heap.size W w' := by
  obtain ⟨W1, hW1⟩ : ∃ W1, (W.alloc (.cells #[.slice T r.atoms.length c, .slice T' r.conds.length c'] 42)).alloc (.cells qryZ 27) = W1 := ⟨_, rfl⟩
  have k1 : Below W.heap.size W W1 := by rw [← hW1]; exact ((Below.refl _ _).alloc (Nat.le_refl _) _).alloc (by simp) _
  have hs1 : W1.heap.size = W.heap.size + 1 + 1 := by rw [← hW1]; simp
  have hb : W1.heap[W.heap.size]? = some (.cells #[.slice T r.atoms.length c, .slice T' r.conds.length c'] 42) := by rw [← hW1, Below.heap_alloc _ _ _ (by simp)]; exact heap_alloc_new W _
  have hz : W1.heap[W.heap.size + 1]? = some (.cells qryZ 27) := by rw [← hW1]; have := heap_alloc_new (W.alloc (.cells #[.slice T r.atoms.length c, .slice T' r.conds.length c'] 42)) (.cells qryZ 27); rwa [World.size_alloc] at this
  have k2 := below_one W1 (.cells #[.slice T r.atoms.length c, .slice T' r.conds.length c'] 42)
  have hg := heap_alloc_new W1 (.cells #[.slice T r.atoms.length c, .slice T' r.conds.length c'] 42)
  have hz2 := (k2.block _ (by omega)).trans hz
  have H := hid h
  have HW := hid hW1
  have K1 := hid k1
  have K2 := hid k2
  have HG := hid hg
  have c0 := box_cell hb 0
  have c1 := box_cell hb 1
  clear h hW1 hz k1 k2 hg hb
  go_enter Tryz.func16, Tryz.ntmps16
  go_wp2_with (first | rw [HW.out] | (refine wpList_stored2 rfl rfl rfl rfl hz2 infoQyP rfl rfl ?_; intro w9 hz9 hg9) | fail)
  refine bodyPost_ret (by simp [results, Tryz.results16, go_sem, cell_res hz9]; rfl) rfl ?_
  have hsz2 : W1.heap.size < (W1.alloc (.cells #[.slice T r.atoms.length c, .slice T' r.conds.length c'] 42)).heap.size := by simp
  have hne : W1.heap.size ≠ W.heap.size + 1 := by omega
  have hg1 := (hg9.block W1.heap.size hsz2 (fun e => hne (by injection e))).trans HG.out
  have kB : Below W.heap.size W w9 := (K1.out.trans (K2.out.mono (by omega))).trans (grown_below' hg9 (by omega) (by simp; omega))
  exact ⟨W1.heap.size, by rw [hs1], rul_qry (H.out.below kB) hg1, kB⟩

theorem rule_rel (t : List Tok × Int × Int) : parseR t = if (parseRq t).2.2 = 0 then (if checkQ (rulQ (parseRq t).1) = 0 then ((parseRq t).1, 0, 0) else (R0, 0, checkQ (rulQ (parseRq t).1))) else (R0, (parseRq t).2.1, (parseRq t).2.2) := by
  unfold parseR parseRq
  by_cases h : t.2.2 = 0
  · rw [if_pos h, if_pos h]
    by_cases h2 : (gramR t.1).2.2 = 0
    · rw [if_pos h2, if_pos h2]
    · rw [if_neg h2, if_neg h2]
      unfold gramR at h2 ⊢
      generalize fullS (tkL t.1) (ruleG (tkL t.1) t.1.length t.1.length 0 R0) = o at h2 ⊢
      cases o with
      | bad e => rfl
      | ok q n => exact absurd rfl h2
  · rw [if_neg h, if_neg h, if_neg h]
theorem parseRq_pos (t : List Tok × Int × Int) (h : (parseRq t).2.2 = 0) : (parseRq t).2.1 = 0 := by
  unfold parseRq at h ⊢
  by_cases h1 : t.2.2 = 0
  · rw [if_pos h1] at h ⊢
    unfold gramR at h ⊢
    generalize fullS (tkL t.1) (ruleG (tkL t.1) t.1.length t.1.length 0 R0) = o at h ⊢
    cases o with
    | bad e => exact absurd (show (21 : Int) = 0 from h) (by decide)
    | ok q n => rfl
  · rw [if_neg h1] at h
    exact absurd h h1

set_option maxRecDepth 100000 in
set_option maxHeartbeats 4000000 in
theorem law_rules20 (s : ByteArray) (w : World) (hE : EnvL w) : Calls Tryz.prog 5 #[.string s] w fun e w' => e = .returned (.bool true) ∧ Below w.heap.size w w' := by
  by_cases hs : 800 < s.size
  · have HAw := hid (awake20 w hE)
    have hs1 : (800 : Int) < (s.size : Int) := by omega
    clear hE hs
    go_enter Tryz.func5, Tryz.ntmps5
    go_wp2_with fail
    refine HAw.out.mono ?_
    rintro e w1 ⟨rfl, k1⟩
    clear HAw
    go_wp2
    go_ret
    exact ⟨rfl, k1⟩
  have hs1 : ¬ (800 : Int) < (s.size : Int) := by omega
  obtain ⟨y, hy⟩ : ∃ y, parseRq (scanL s.data.toList) = y := ⟨_, rfl⟩
  have hrel := rule_rel (scanL s.data.toList)
  have hpos := parseRq_pos (scanL s.data.toList)
  rw [hy] at hrel hpos
  obtain ⟨q, at_, code⟩ := y
  simp only at hrel hpos
  by_cases hc : code = 0
  · subst hc
    obtain rfl := hpos rfl
    rw [if_pos rfl] at hrel
    obtain ⟨f, hf⟩ : ∃ f, checkQ (rulQ q) = f := ⟨_, rfl⟩
    rw [hf] at hrel
    by_cases h0 : f = 0
    · subst h0
      rw [if_pos rfl] at hrel
      have hx := hrel
      clear hrel hpos
      have HP := hid (prs_ruleF s w hE (by omega) rfl hx)
      have HR := fun W (_ : Below w.heap.size w W) => hid (ref_rule20 s W (by omega) rfl hy)
      have HAw := fun W (k : Below w.heap.size w W) => hid (awake20 W (hE.below k))
      clear hE hx hy
      go_enter Tryz.func5, Tryz.ntmps5
      go_wp2_with fail
      refine HP.out.mono ?_
      rintro e w1 ⟨S1, U1, a1, b1, rfl, i1, f1, k1⟩
      simp only
      have x1 := below_one w1 (.cells #[.slice S1 q.atoms.length a1, .slice U1 q.conds.length b1] 42)
      have h1 := heap_alloc_new w1 (.cells #[.slice S1 q.atoms.length a1, .slice U1 q.conds.length b1] 42)
      have K1 := hid (k1.trans (x1.mono k1.size))
      have I1 := hid (i1.below x1)
      have G1 := hid h1
      have HR1 := hid (HR _ K1.out).out
      have l1 : w1.heap.size < (w1.alloc (.cells #[.slice S1 q.atoms.length a1, .slice U1 q.conds.length b1] 42)).heap.size := by simp
      clear HP HR k1 x1 h1 i1
      go_wp2_with fail
      refine HR1.out.mono ?_
      rintro e w2 ⟨S2, U2, a2, b2, rfl, i2, f2, k2⟩
      simp only
      have x2 := below_one w2 (.cells #[.slice S2 q.atoms.length a2, .slice U2 q.conds.length b2] 42)
      have h2 := heap_alloc_new w2 (.cells #[.slice S2 q.atoms.length a2, .slice U2 q.conds.length b2] 42)
      have kk := k2.trans (x2.mono k2.size)
      have K2 := hid (K1.out.trans (kk.mono K1.out.size))
      have I2 := hid (i2.below x2)
      have J1 := hid (I1.out.below kk)
      have G2 := hid h2
      have g1 := (kk.block w1.heap.size l1).trans G1.out
      have G1' := hid g1
      have l2 : w2.heap.size < (w2.alloc (.cells #[.slice S2 q.atoms.length a2, .slice U2 q.conds.length b2] 42)).heap.size := by simp
      have l12 : w1.heap.size < w2.heap.size := Nat.lt_of_lt_of_le l1 k2.size
      obtain ⟨w3, hw3⟩ : ∃ w3, w2.alloc (.cells #[.slice S2 q.atoms.length a2, .slice U2 q.conds.length b2] 42) = w3 := ⟨_, rfl⟩
      rw [hw3] at K2 I2 J1 G2 G1' l2
      have HW3 := hid hw3
      clear HR1 k2 x2 h2 i2 kk g1 G1 I1 K1 hw3
      have HAl := hid (law_alone q S2 U2 a2 b2 w3 I2.out)
      have c20 := box_cell G2.out 0
      have c21 := box_cell G2.out 1
      go_wp2_with (first | rw [HW3.out] | fail)
      refine HAl.out.mono ?_
      rintro e w4 ⟨g4, rfl, n4, k4⟩
      have HCk := hid (ast_check (rulQ q) none (some ⟨g4, 0, none⟩) none 0 1 0 w4 n4 (rulQ_wf f2) hf)
      have B4 := hid k4
      clear hf HAl n4 k4 c20 c21
      go_wp2_with fail
      refine HCk.out.mono ?_
      rintro e w5 ⟨rfl, k5⟩
      have B5 := hid (B4.out.trans (k5.mono B4.out.size))
      have K5 := hid (K2.out.trans (B5.out.mono K2.out.size))
      have hz5 := B5.out.size
      have g1 := (B5.out.block w1.heap.size (by omega)).trans G1'.out
      have g2 := (B5.out.block w2.heap.size l2).trans G2.out
      have L1 := hid (J1.out.below B5.out)
      have L2 := hid (I2.out.below B5.out)
      have e0 := box_cell g1 0
      have e1 := box_cell g1 1
      have e2 := box_cell g2 0
      have e3 := box_cell g2 1
      have HA := fun W (b : Below w5.heap.size w5 W) => HAw W (K5.out.trans (b.mono K5.out.size))
      have H1 := fun W (b : Below w5.heap.size w5 W) => hid (law_alone q S1 U1 a1 b1 W (L1.out.below b))
      have H2 := fun W (b : Below w5.heap.size w5 W) => hid (law_alone q S2 U2 a2 b2 W (L2.out.below b))
      have H3 := fun W g8 g9 (n8 : QryIn W (rulQ q) none (some ⟨g8, 0, none⟩) none 0 1 0) (n9 : QryIn W (rulQ q) none (some ⟨g9, 0, none⟩) none 0 1 0) => hid (ast_equal (rulQ q) (rulQ q) none (some ⟨g8, 0, none⟩) none none (some ⟨g9, 0, none⟩) none 0 1 0 0 1 0 W n8 n9 (b := true) ⟨fun _ => rfl, fun _ => rfl⟩)
      clear HCk k5 B4 HAw g1 g2 L1 L2 G1' G2 I2 J1 K2
      go_upto_region 10 with fail
      go_region_held3 (fun w' => w'.cell? ⟨w1.heap.size, 0, none⟩ = some (.slice S1 q.atoms.length a1) ∧ w'.cell? ⟨w1.heap.size, 1, none⟩ = some (.slice U1 q.conds.length b1) ∧ w'.cell? ⟨w2.heap.size, 0, none⟩ = some (.slice S2 q.atoms.length a2) ∧ w'.cell? ⟨w2.heap.size, 1, none⟩ = some (.slice U2 q.conds.length b2)) (first | exact ⟨e0, e1, e2, e3⟩ | exact ⟨m0, m1, m2, m3⟩ | exact ⟨p0, p1, p2, p3⟩ | exact ⟨r0, r1, r2, r3⟩ | exact ⟨t0, t1, t2, t3⟩ | assumption | fail)
        (first
          | (go_at_call 12; refine (H3 _ g7 g8 (N7.out.below BB8.out) N8.out).out.mono ?_; rintro e w9 ⟨rfl, k9⟩; have t0 := cell_keep k9 r0; have t1 := cell_keep k9 r1; have t2 := cell_keep k9 r2; have t3 := cell_keep k9 r3; have K9 := hid (K5.out.trans ((B8.out.trans (k9.mono B8.out.size)).mono K5.out.size)); clear k9)
          | (go_at_call 16; refine (H2 _ B7.out).out.mono ?_; rintro e w8 ⟨g8, rfl, n8, k8⟩; have r0 := cell_keep k8 p0; have r1 := cell_keep k8 p1; have r2 := cell_keep k8 p2; have r3 := cell_keep k8 p3; have BB8 := hid k8; have B8 := hid (B7.out.trans (k8.mono B7.out.size)); have N8 := hid n8; clear n8 k8)
          | (go_at_call 16; refine (H1 _ B6.out).out.mono ?_; rintro e w7 ⟨g7, rfl, n7, k7⟩; have p0 := cell_keep k7 m0; have p1 := cell_keep k7 m1; have p2 := cell_keep k7 m2; have p3 := cell_keep k7 m3; have B7 := hid (B6.out.trans (k7.mono B6.out.size)); have N7 := hid n7; clear n7 k7)
          | (go_at_call 9; refine (HA _ (Below.refl _ w5).drew).out.mono ?_; rintro e w6 ⟨rfl, k6⟩; have m0 := cell_keep k6 e0; have m1 := cell_keep k6 e1; have m2 := cell_keep k6 e2; have m3 := cell_keep k6 e3; have B6 : Hid (Below w5.heap.size w5 w6) := hid ((Below.refl _ w5).drew.trans k6); clear k6)
          | fail)
      all_goals
        go_wp2
        go_ret
        exact ⟨rfl, K9.out⟩
    · have hx : parseR (scanL s.data.toList) = (R0, 0, f) := by rw [hrel, if_neg h0]
      have hb0 : (f != 0) = true := by simpa using h0
      clear hrel hpos h0
      have HP := hid (prs_ruleF s w hE (by omega) rfl hx)
      have HR := fun W (_ : Below w.heap.size w W) => hid (ref_rule20 s W (by omega) rfl hy)
      have HAw := fun W (k : Below w.heap.size w W) => hid (awake20 W (hE.below k))
      clear hE hx hy
      go_enter Tryz.func5, Tryz.ntmps5
      go_wp2_with fail
      refine HP.out.mono ?_
      rintro e w1 ⟨S1, U1, a1, b1, rfl, i1, f1, k1⟩
      simp only
      have x1 := below_one w1 (.cells #[.slice S1 R0.atoms.length a1, .slice U1 R0.conds.length b1] 42)
      have h1 := heap_alloc_new w1 (.cells #[.slice S1 R0.atoms.length a1, .slice U1 R0.conds.length b1] 42)
      have K1 := hid (k1.trans (x1.mono k1.size))
      have I1 := hid (i1.below x1)
      have G1 := hid h1
      have HR1 := hid (HR _ K1.out).out
      have l1 : w1.heap.size < (w1.alloc (.cells #[.slice S1 R0.atoms.length a1, .slice U1 R0.conds.length b1] 42)).heap.size := by simp
      clear HP HR k1 x1 h1 i1
      go_wp2_with fail
      refine HR1.out.mono ?_
      rintro e w2 ⟨S2, U2, a2, b2, rfl, i2, f2, k2⟩
      simp only
      have x2 := below_one w2 (.cells #[.slice S2 q.atoms.length a2, .slice U2 q.conds.length b2] 42)
      have h2 := heap_alloc_new w2 (.cells #[.slice S2 q.atoms.length a2, .slice U2 q.conds.length b2] 42)
      have kk := k2.trans (x2.mono k2.size)
      have K2 := hid (K1.out.trans (kk.mono K1.out.size))
      have I2 := hid (i2.below x2)
      have J1 := hid (I1.out.below kk)
      have G2 := hid h2
      have g1 := (kk.block w1.heap.size l1).trans G1.out
      have G1' := hid g1
      have l2 : w2.heap.size < (w2.alloc (.cells #[.slice S2 q.atoms.length a2, .slice U2 q.conds.length b2] 42)).heap.size := by simp
      have l12 : w1.heap.size < w2.heap.size := Nat.lt_of_lt_of_le l1 k2.size
      obtain ⟨w3, hw3⟩ : ∃ w3, w2.alloc (.cells #[.slice S2 q.atoms.length a2, .slice U2 q.conds.length b2] 42) = w3 := ⟨_, rfl⟩
      rw [hw3] at K2 I2 J1 G2 G1' l2
      have HW3 := hid hw3
      clear HR1 k2 x2 h2 i2 kk g1 G1 I1 K1 hw3
      have HAl := hid (law_alone q S2 U2 a2 b2 w3 I2.out)
      have c20 := box_cell G2.out 0
      have c21 := box_cell G2.out 1
      go_wp2_with (first | rw [HW3.out] | fail)
      refine HAl.out.mono ?_
      rintro e w4 ⟨g4, rfl, n4, k4⟩
      have HCk := hid (ast_check (rulQ q) none (some ⟨g4, 0, none⟩) none 0 1 0 w4 n4 (rulQ_wf f2) hf)
      have B4 := hid k4
      clear hf HAl n4 k4 c20 c21
      go_wp2_with fail
      refine HCk.out.mono ?_
      rintro e w5 ⟨rfl, k5⟩
      have B5 := hid (B4.out.trans (k5.mono B4.out.size))
      have K5 := hid (K2.out.trans (B5.out.mono K2.out.size))
      have HA := hid (HAw w5 K5.out).out
      clear HCk k5 B4 HAw
      go_wp2_with fail
      refine HA.out.mono ?_
      rintro e w6 ⟨rfl, k6⟩
      have kk := B5.out.trans (k6.mono B5.out.size)
      have K6 := hid (K5.out.trans (k6.mono K5.out.size))
      have L1 := hid (J1.out.below kk)
      have L2 := hid (I2.out.below kk)
      have g1 := (kk.block w1.heap.size (by omega)).trans G1'.out
      have g2 := (kk.block w2.heap.size l2).trans G2.out
      have hz6 := kk.size
      have G6 := hid (And.intro g1 g2)
      clear HA k6 kk G1' G2 I2 J1 K2 K5 B5
      have c10 := box_cell g1 0
      have c11 := box_cell g1 1
      have HAl := hid (law_alone R0 S1 U1 a1 b1 w6 L1.out)
      clear g1 g2
      go_wp2_with fail
      refine HAl.out.mono ?_
      rintro e w7 ⟨g7, rfl, n7, k7⟩
      have K7 := hid (K6.out.trans (k7.mono K6.out.size))
      have N7 := hid n7
      have HAl2 := hid (law_alone R0 none none 0 0 w7 (R0_in w7))
      clear HAl n7 k7 c10 c11
      go_wp2_with fail
      refine HAl2.out.mono ?_
      rintro e w8 ⟨g8, rfl, n8, k8⟩
      have K8 := hid (K7.out.trans (k8.mono K7.out.size))
      have HEq := hid (ast_equal (rulQ R0) (rulQ R0) none (some ⟨g7, 0, none⟩) none none (some ⟨g8, 0, none⟩) none 0 1 0 0 1 0 w8 (N7.out.below k8) n8 (b := true) ⟨fun _ => rfl, fun _ => rfl⟩)
      clear HAl2 n8 k8
      go_wp2_with fail
      refine HEq.out.mono ?_
      rintro e w9 ⟨rfl, k9⟩
      have K9 := hid (K8.out.trans (k9.mono K8.out.size))
      clear HEq k9
      go_wp2
      go_ret
      exact ⟨rfl, K9.out⟩
  · rw [if_neg hc] at hrel
    have hx := hrel
    have hb0 : (code != 0) = true := by simpa using hc
    clear hrel hpos hc
    have HP := hid (prs_ruleF s w hE (by omega) rfl hx)
    have HR := fun W (_ : Below w.heap.size w W) => hid (ref_rule20 s W (by omega) rfl hy)
    have HAw := fun W (k : Below w.heap.size w W) => hid (awake20 W (hE.below k))
    clear hE hx hy
    go_enter Tryz.func5, Tryz.ntmps5
    go_wp2_with fail
    refine HP.out.mono ?_
    rintro e w1 ⟨S1, U1, a1, b1, rfl, i1, f1, k1⟩
    simp only
    have x1 := below_one w1 (.cells #[.slice S1 R0.atoms.length a1, .slice U1 R0.conds.length b1] 42)
    have h1 := heap_alloc_new w1 (.cells #[.slice S1 R0.atoms.length a1, .slice U1 R0.conds.length b1] 42)
    have K1 := hid (k1.trans (x1.mono k1.size))
    have I1 := hid (i1.below x1)
    have G1 := hid h1
    have HR1 := hid (HR _ K1.out).out
    have l1 : w1.heap.size < (w1.alloc (.cells #[.slice S1 R0.atoms.length a1, .slice U1 R0.conds.length b1] 42)).heap.size := by simp
    clear HP HR k1 x1 h1 i1
    go_wp2_with fail
    refine HR1.out.mono ?_
    rintro e w2 ⟨S2, U2, a2, b2, rfl, i2, f2, k2⟩
    simp only
    have x2 := below_one w2 (.cells #[.slice S2 q.atoms.length a2, .slice U2 q.conds.length b2] 42)
    have h2 := heap_alloc_new w2 (.cells #[.slice S2 q.atoms.length a2, .slice U2 q.conds.length b2] 42)
    have kk := k2.trans (x2.mono k2.size)
    have K2 := hid (K1.out.trans (kk.mono K1.out.size))
    have I2 := hid (i2.below x2)
    have J1 := hid (I1.out.below kk)
    have G2 := hid h2
    have g1 := (kk.block w1.heap.size l1).trans G1.out
    have G1' := hid g1
    have l2 : w2.heap.size < (w2.alloc (.cells #[.slice S2 q.atoms.length a2, .slice U2 q.conds.length b2] 42)).heap.size := by simp
    have l12 : w1.heap.size < w2.heap.size := Nat.lt_of_lt_of_le l1 k2.size
    obtain ⟨w3, hw3⟩ : ∃ w3, w2.alloc (.cells #[.slice S2 q.atoms.length a2, .slice U2 q.conds.length b2] 42) = w3 := ⟨_, rfl⟩
    rw [hw3] at K2 I2 J1 G2 G1' l2
    have HW3 := hid hw3
    clear HR1 k2 x2 h2 i2 kk g1 G1 I1 K1 hw3
    have HA := hid (HAw w3 K2.out).out
    have K5 := K2
    have B5 := hid (Below.refl w3.heap.size w3)
    clear HAw
    go_wp2_with (first | rw [HW3.out] | fail)
    refine HA.out.mono ?_
    rintro e w6 ⟨rfl, k6⟩
    have kk := B5.out.trans (k6.mono B5.out.size)
    have K6 := hid (K5.out.trans (k6.mono K5.out.size))
    have L1 := hid (J1.out.below kk)
    have L2 := hid (I2.out.below kk)
    have g1 := (kk.block w1.heap.size (by omega)).trans G1'.out
    have g2 := (kk.block w2.heap.size l2).trans G2.out
    have hz6 := kk.size
    have G6 := hid (And.intro g1 g2)
    clear HA k6 kk G1' G2 I2 J1 K2 K5 B5
    have c10 := box_cell g1 0
    have c11 := box_cell g1 1
    have HAl := hid (law_alone R0 S1 U1 a1 b1 w6 L1.out)
    clear g1 g2
    go_wp2_with fail
    refine HAl.out.mono ?_
    rintro e w7 ⟨g7, rfl, n7, k7⟩
    have K7 := hid (K6.out.trans (k7.mono K6.out.size))
    have N7 := hid n7
    have HAl2 := hid (law_alone R0 none none 0 0 w7 (R0_in w7))
    clear HAl n7 k7 c10 c11
    go_wp2_with fail
    refine HAl2.out.mono ?_
    rintro e w8 ⟨g8, rfl, n8, k8⟩
    have K8 := hid (K7.out.trans (k8.mono K7.out.size))
    have HEq := hid (ast_equal (rulQ R0) (rulQ R0) none (some ⟨g7, 0, none⟩) none none (some ⟨g8, 0, none⟩) none 0 1 0 0 1 0 w8 (N7.out.below k8) n8 (b := true) ⟨fun _ => rfl, fun _ => rfl⟩)
    clear HAl2 n8 k8
    go_wp2_with fail
    refine HEq.out.mono ?_
    rintro e w9 ⟨rfl, k9⟩
    have K9 := hid (K8.out.trans (k9.mono K8.out.size))
    clear HEq k9
    go_wp2
    go_ret
    exact ⟨rfl, K9.out⟩
end
end Go.Proofs.YtnbacdmlaedppaaGreatDoor
