/-
  PARTS of a claim, merged by segs.py: Ps9.
-/
import Derived.Test.YtnbacdmlaedppaaGreatDoorQ26
namespace Go.Proofs.YtnbacdmlaedppaaGreatDoor

/-! ### Ps9 -/
section
open Go.RowKit

def RetQy (w : World) (o : Out Qry) (e : Ending) (w' : World) : Prop := (match o with
  | .bad b => ∃ (H : Option Addr) (n c : Nat) (a nx : Int) (s : ByteArray) (R : Option Addr) (nr cr : Nat) (O : Option Addr) (no co : Nat), e = .returned (.tuple #[.agg (qyC H n c a s R nr cr O no co), .int .i64 nx, .int .i64 b])
  | .ok q nx => ∃ H ch R cr O co, e = .returned (.tuple #[.agg (qyC H q.head.length ch q.agg ⟨q.aggVar.toArray⟩ R q.rules.length cr O q.order.length co), .int .i64 nx, .int .i64 (-1)]) ∧ OwnQy w' w.heap.size H ch R cr O co q) ∧ Below w.heap.size w w'
set_option maxRecDepth 100000 in
set_option maxHeartbeats 4000000 in
theorem ref_query (A : Option Addr) (c n : Nat) (L : List Tok) (w : World) (hT : RefTk w A L) (hn : n = L.length + 3) {x : Out Qry} (hx : queryS (tkL L) L.length = x) :
    Calls Tryz.prog 26 #[.slice A n c] w (RetQy w x) := by
  obtain ⟨i0, hi0, hz0, hz1, hz2⟩ := info_parts infoRlP2
  obtain ⟨wA, hwA⟩ : ∃ wA, wA = w.alloc (hdO none 0 0 0 ⟨#[]⟩) := ⟨_, rfl⟩
  have hszA : wA.heap.size = w.heap.size + 1 := by rw [hwA]; simp
  have k0 : Below w.heap.size w wA := by rw [hwA]; exact (Below.refl _ _).alloc (Nat.le_refl _) _
  have p0 : wA.heap[w.heap.size]? = some (hdO none 0 0 0 ⟨#[]⟩) := by rw [hwA]; exact heap_alloc_new w _
  have HIs := hid (fun (W : World) (kW : Below w.heap.size w W) (s : Str) (j : Nat) (hj : j < L.length + 3) (z : Bool) (hz : isT (tkL L j) s = z) => ref_is A c n j L s W (hT.below kW) hj hn hz)
  have HRu := hid (fun (W : World) (kW : Below w.heap.size w W) (j : Nat) (hj : j < L.length) (o : Out Rul) (ho : ruleG (tkL L) L.length L.length j R0 = o) => ref_rule A c n j L W (hT.below kW) hj hn ho)
  have HKy := hid (fun (W : World) (kW : Below w.heap.size w W) (j : Nat) (hj : j < L.length) (o : Out (List Ky)) (ho : keysS (tkL L) L.length j [] = o) => ref_keys A c n j L W (hT.below kW) hj hn ho)
  have hE := hid hT.ended
  have hL := hT.few
  have hln : L.length + 3 ≤ n := by omega
  obtain ⟨oh, hoh⟩ : ∃ oh, headG (tkL L) L.length = oh := ⟨_, rfl⟩
  have HH : Hid (Calls Tryz.prog 51 #[.slice A n c, .int .i64 0] wA (RetHd wA oh)) := hid (ref_head A c n 0 L wA (hT.below k0) rfl hn hoh)
  unfold queryS at hx
  rw [hoh] at hx
  have HX := hid hx
  have HN := hid (fun q nx (e : oh = .ok q nx) => And.intro (headS_nx hE.out (hoh.trans e)).2 (headS_sort (hoh.trans e)))
  have HwA := hid hwA
  clear hT hn hx hoh
  go_enter Tryz.func26, Tryz.ntmps26
  go_wp2_with fail
  rw [← HwA.out]
  clear hwA HwA
  refine HH.out.mono ?_
  rintro e w1 ⟨hm, b1⟩
  have k1 := k0.trans (b1.mono k0.size)
  have p1 := (b1.block w.heap.size (by omega)).trans p0
  have s1 : w.heap.size + 1 ≤ w1.heap.size := by have := b1.size; omega
  have hX := HX.out
  clear b1 HH p0 HX
  cases oh with
  | bad eb =>
    obtain ⟨gH, gn, gc, ga, gx, gs, rfl⟩ := hm
    simp only at hX
    subst hX
    have k2 : Below w.heap.size w (w1.alloc (hdO gH gn gc ga gs)) := k1.alloc k1.size _
    have p2 : (w1.alloc (hdO gH gn gc ga gs)).heap[w.heap.size]? = _ := (Below.heap_alloc _ _ _ (by omega)).trans p1
    clear p1
    go_wp2_with (refine wpList_store_res rfl rfl rfl rfl p2 infoQyP rfl rfl ?_; intro w9 hz9 hb9)
    refine bodyPost_ret (by simp [results, Tryz.results26, go_sem, cell_res hz9]; rfl) rfl ?_
    exact ⟨⟨_, _, _, _, _, _, _, _, _, _, _, _, by rfl⟩, k2.trans (hb9.mono (by omega))⟩
  | ok q0 nx =>
    obtain ⟨Hh, ch, rfl, hO⟩ := hm
    obtain ⟨hnx, hq1, hq2⟩ := HN.out q0 nx rfl
    obtain ⟨h, ga, gs, gr, go⟩ := q0
    simp only at hX hO hq1 hq2
    subst hq1 hq2
    obtain ⟨orl, horl⟩ : ∃ orl, rulesS (tkL L) L.length L.length nx [] = orl := ⟨_, rfl⟩
    rw [horl] at hX
    have HX := hid hX
    have HR0 := hid horl
    have O1 := hid hO
    have p2 : (w1.alloc (hdO Hh h.length ch ga ⟨gs.toArray⟩)).heap[w.heap.size]? = some (hdO none 0 0 0 ⟨#[]⟩) := (Below.heap_alloc _ _ _ (by omega)).trans p1
    have q2 : (w1.alloc (hdO Hh h.length ch ga ⟨gs.toArray⟩)).heap[w1.heap.size]? = some (qyO Hh h.length ch ga ⟨gs.toArray⟩ none 0 0 none 0 0) := heap_alloc_new w1 _
    have B2 : Below w1.heap.size w1 (w1.alloc (hdO Hh h.length ch ga ⟨gs.toArray⟩)) := below_one w1 _
    have s2 : (w1.alloc (hdO Hh h.length ch ga ⟨gs.toArray⟩)).heap.size = w1.heap.size + 1 := by simp
    obtain ⟨g, hg⟩ : ∃ g, g = w1.heap.size := ⟨_, rfl⟩
    have HP2 := hid p2
    have HQ2 := hid q2
    have HB2 := hid B2
    clear p1 hX horl hO p2 q2 B2 HN
    go_wp2
    go_loopw [6] (fun vi wr => ∃ (f j : Nat) (rs : List Rul) (R : Option Addr) (cr : Nat), vi = .int .i64 j ∧ j < L.length ∧ L.length ≤ f + j ∧ rs.length + f ≤ L.length ∧ Hid (rulesS (tkL L) L.length f j rs = orl) ∧ Hid (OwnRls wr (w1.heap.size + 1) (.slice R rs.length cr) rs) ∧ Hid (wr.heap[w.heap.size]? = some (hdO none 0 0 0 ⟨#[]⟩)) ∧ Hid (wr.heap[w1.heap.size]? = some (qyO Hh h.length ch ga ⟨gs.toArray⟩ R rs.length cr none 0 0)) ∧ w1.heap.size + 1 ≤ wr.heap.size ∧ Hid (Below w1.heap.size w1 wr)) (fun vi _ => L.length - (intOf vi).toNat)
    case atStart => exact ⟨L.length, nx, [], none, 0, rfl, hnx, by omega, by show 0 + _ ≤ _; omega, HR0, hid OwnRls.nil, HP2, HQ2, by simp, HB2⟩
    case round =>
      obtain ⟨f, j, rs, R, cr, rfl, hj, hf, hr, HS, HO, H1, H2, hsw, HB⟩ := hrel
      clear HR0 HP2 HQ2 HB2 s2
      have kr := k1.trans (HB.out.mono k1.size)
      obtain ⟨f', hf'⟩ : ∃ g, f = g + 1 := ⟨f - 1, by omega⟩
      have hS := HS.out
      rw [hf'] at hS
      unfold rulesS at hS
      obtain ⟨o, ho⟩ : ∃ o, ruleG (tkL L) L.length L.length j ⟨[], []⟩ = o := ⟨_, rfl⟩
      have HI := hid (HRu.out wr kr j hj o ho)
      rw [ho] at hS
      have HS2 := hid hS
      have Hnx := hid (fun r' nx (h : o = .ok r' nx) => ruleS_nx hE.out (ho.trans h))
      have Hf := hid hf'
      have hrs : rs.length + 1 ≤ L.length := by omega
      clear hS HS ho hf'
      go_wp2_with fail
      refine HI.out.mono ?_
      rintro e w3 ⟨hm, b3⟩
      have B3 := HB.out.trans (b3.mono (by omega))
      have hs3 := b3.size
      have p3 := (b3.block w.heap.size (by omega)).trans H1.out
      have q3 := (b3.block w1.heap.size (by omega)).trans H2.out
      have O3 := hid (HO.out.below b3)
      clear HI H1 H2 HO b3
      cases o with
      | bad eb =>
        obtain ⟨A1, n1, c1, A2, n2, c2, rx, rfl⟩ := hm
        have hS := HS2.out
        simp only at hS
        have hx2 := HX.out
        rw [← hS] at hx2
        simp only at hx2
        subst hx2
        have p4 : (w3.alloc (rulO (.slice A1 n1 c1) (.slice A2 n2 c2))).heap[w.heap.size]? = some (hdO none 0 0 0 ⟨#[]⟩) := (Below.heap_alloc _ _ _ (by omega)).trans p3
        have q4 : (w3.alloc (rulO (.slice A1 n1 c1) (.slice A2 n2 c2))).heap[w1.heap.size]? = some (qyO Hh h.length ch ga ⟨gs.toArray⟩ R rs.length cr none 0 0) := (Below.heap_alloc _ _ _ (by omega)).trans q3
        have k4 : Below w.heap.size w (w3.alloc (rulO (.slice A1 n1 c1) (.slice A2 n2 c2))) := (k1.trans (B3.mono k1.size)).alloc (by omega) _
        have c0 := box_cell q4 0
        have c1 := box_cell q4 1
        have c2 := box_cell q4 2
        have c3 := box_cell q4 3
        have c4 := box_cell q4 4
        clear p3 q3 q4 HS2 Hnx HX HIs HRu HKy
        go_wp2_with (refine wpList_store_res rfl rfl rfl rfl p4 infoQyP rfl rfl ?_; intro w9 hz9 hb9)
        refine bodyPost_ret (by simp [results, Tryz.results26, go_sem, cell_res hz9]; rfl) rfl ?_
        exact ⟨⟨_, _, _, _, _, _, _, _, _, _, _, _, by rfl⟩, k4.trans (hb9.mono (by omega))⟩
      | ok r' rx =>
        obtain ⟨ua, uc, rfl, hrl⟩ := hm
        obtain ⟨Aa', ca', Ac', cc', rfl, rfl⟩ := hrl.shape
        obtain ⟨hn1, hn2⟩ := Hnx.out r' rx rfl
        have hS := HS2.out
        simp only at hS
        obtain ⟨z, hz⟩ : ∃ z, isT (tkL L rx) sBar = z := ⟨_, rfl⟩
        rw [hz] at hS
        have HZ := hid (fun (h : z = true) => hE.out.isT (hz.trans h))
        have HI2 := hid (fun W kW => HIs.out W kW sBar rx (by omega) z hz)
        have HS3 := hid hS
        obtain ⟨w4, hw4⟩ : ∃ w4, w4 = w3.alloc (rulO (.slice Aa' r'.atoms.length ca') (.slice Ac' r'.conds.length cc')) := ⟨_, rfl⟩
        have p4 : w4.heap[w.heap.size]? = some (hdO none 0 0 0 ⟨#[]⟩) := by rw [hw4]; exact (Below.heap_alloc _ _ _ (by omega)).trans p3
        have q4 : w4.heap[w1.heap.size]? = some (qyO Hh h.length ch ga ⟨gs.toArray⟩ R rs.length cr none 0 0) := by rw [hw4]; exact (Below.heap_alloc _ _ _ (by omega)).trans q3
        have R4 := hid (show OwnRl w4 (w1.heap.size + 1) _ _ _ by rw [hw4]; exact (hrl.mono hsw).below (below_one w3 (rulO (.slice Aa' r'.atoms.length ca') (.slice Ac' r'.conds.length cc'))))
        have O4 := (show OwnRls w4 (w1.heap.size + 1) _ _ by rw [hw4]; exact O3.out.below (below_one w3 (rulO (.slice Aa' r'.atoms.length ca') (.slice Ac' r'.conds.length cc'))))
        have B4 : Below w1.heap.size w1 w4 := by rw [hw4]; exact B3.alloc (by omega) _
        have s4 : w4.heap.size = w3.heap.size + 1 := by rw [hw4]; simp
        have c3 := box_cell q4 3
        have d3 : (w3.alloc (rulO (.slice Aa' r'.atoms.length ca') (.slice Ac' r'.conds.length cc'))).cell? ⟨w1.heap.size, 3, none⟩ = some (.slice R rs.length cr) := by rw [← hw4]; exact c3
        have Hw4 := hid hw4
        clear p3 q3 HS2 Hnx hrl hS hz B3 O3 hw4
        obtain ⟨us, vs, h0, h1, h2, h3⟩ := O4
        have H3 := hid (And.intro h0 (And.intro h1 h3))
        clear h0 h1 h3
        have hul : ∀ b, (Value.slice R rs.length cr).ownBlock = some b → w1.heap.size + 1 ≤ b := fun b e => (h2.lt b e).1
        rw [Hw4.out] at h2 q4 p4
        clear c3
        have s4' : (w3.alloc (rulO (.slice Aa' r'.atoms.length ca') (.slice Ac' r'.conds.length cc'))).heap.size = w3.heap.size + 1 := by simp
        have HP4 := hid p4
        have HQ4 := hid q4
        have HU := hid hul
        clear p4 q4 hul
        go_upto_region 8 with (at_builtin; refine wpList_append_new2 Tryz.underlying24 hi0 hz0 hz1 hz2 rfl (by decide) (by decide) rfl rfl rfl h2 rfl (by simp) rfl rfl (by omega) (by simp; omega) ?_; intro v5 w5 hown5 hg5; obtain ⟨R5, cr5, rfl⟩ := own_shape hown5; have q5 := (hg5.block w1.heap.size (by simp; omega) (fun e => by have := HU.out _ e.symm; omega)).trans HQ4.out; have c5 := box_cell q5 3; have f5 := box_free q5 3)
        have e5 : rs.length + 1 = (rs ++ [r']).length := by simp
        have hg6 := ren_set w5 w1.heap.size 3 (.slice R5 (rs.length + 1) cr5)
        have q6 : (w5.setCell ⟨w1.heap.size, 3, none⟩ (.slice R5 (rs.length + 1) cr5)).heap[w1.heap.size]? = some (qyO Hh h.length ch ga ⟨gs.toArray⟩ R5 (rs ++ [r']).length cr5 none 0 0) := by rw [← e5]; exact box_set q5 3 (.slice R5 (rs.length + 1) cr5)
        have p5 := (hg5.block w.heap.size (by simp; omega) (fun e => by have := HU.out _ e.symm; omega)).trans HP4.out
        have s5 := hg5.size
        rw [← Hw4.out] at h2 hg5 s5
        have p6 := (hg6.block w.heap.size (by omega) (by simp; omega)).trans p5
        have O5 := OwnRls.push H3.out.1 H3.out.2.1 h2 H3.out.2.2 R4.out.1 R4.out.2 hg5 rfl hown5
        have O6 : Hid (OwnRls (w5.setCell ⟨w1.heap.size, 3, none⟩ (.slice R5 (rs.length + 1) cr5)) (w1.heap.size + 1) (.slice R5 (rs ++ [r']).length cr5) (rs ++ [r'])) := hid (by rw [← e5]; exact O5.far hg6 (by omega))
        have B6 := (B4.trans ((grown_below h2 hg5 (by omega)).mono (by omega))).trans (grown_below' hg6 (Nat.le_refl _) (by omega))
        have s6 := hg6.size
        clear q5 c5 f5 p5 O5 hg5 hg6 hown5 R4 H3 h2 HP4 HQ4 HU Hw4
        have k6 := k1.trans (B6.mono k1.size)
        have hlr : (rs ++ [r']).length ≤ L.length := by omega
        have HF := hid e5
        clear e5
        generalize w5.setCell ⟨w1.heap.size, 3, none⟩ (.slice R5 (rs.length + 1) cr5) = w6 at *
        have HI6 := hid (HI2.out w6 k6)
        clear HI2
        go_wp2_with fail
        refine HI6.out.mono ?_
        rintro e w7 ⟨rfl, b7⟩
        have B7 := B6.trans (b7.mono (by omega))
        have s7 := b7.size
        have p7 := (b7.block w.heap.size (by omega)).trans p6
        have q7 := (b7.block w1.heap.size (by omega)).trans q6
        have O7 := hid (O6.out.below b7)
        have hS := HS3.out
        clear b7 HI6 p6 q6 O6 B6 k6 HS3
        cases z with
        | true =>
          rw [if_pos rfl] at hS
          have hrx := HZ.out rfl
          have HS4 := hid hS
          have P7 := hid p7
          have Q7 := hid (show w7.heap[w1.heap.size]? = some (qyO Hh h.length ch ga ⟨gs.toArray⟩ R5 (rs ++ [r']).length cr5 none 0 0) from q7)
          have B8 := hid B7
          clear hS p7 q7 B7 HZ
          go_wp2
          go_roundw
          case rel => exact ⟨f', rx + 1, rs ++ [r'], R5, cr5, by go_num, hrx, by have := Hf.out; omega, by have := Hf.out; have := HF.out; omega, HS4, O7, P7, Q7, by omega, B8⟩
          case measure => simp [intOf]; omega
        | false =>
          rw [if_neg (by decide)] at hS
          have hx := HX.out
          rw [← hS] at hx
          simp only at hx
          have k7 := k1.trans (B7.mono k1.size)
          have Q7 : w7.heap[w1.heap.size]? = some (qyO Hh h.length ch ga ⟨gs.toArray⟩ R5 (rs ++ [r']).length cr5 none 0 0) := q7
          have HU := hid (own_belowS O1.out B7)
          clear q7 hS HX HZ HF
          generalize rs ++ [r'] = l at *
          obtain ⟨z, hz⟩ : ∃ z, isT (tkL L rx) sOrder = z := ⟨_, rfl⟩
          have HI7 := hid (HIs.out w7 k7 sOrder rx (by omega) z hz)
          rw [hz] at hx
          have HX := hid hx
          have HZ := hid (fun (h : z = true) => hE.out.isT (hz.trans h))
          clear hz hx HIs
          go_wp2_with fail
          refine HI7.out.mono ?_
          rintro e w8 ⟨rfl, b8⟩
          have k8 := k7.trans (b8.mono k7.size)
          have B8 := hid (B7.trans (b8.mono (by omega)))
          have s8 := b8.size
          have p8 := (b8.block w.heap.size (by omega)).trans p7
          have q8 := (b8.block w1.heap.size (by omega)).trans Q7
          have O8 := hid (O7.out.below b8)
          have U8 := hid (own_belowS HU.out b8)
          have hx := HX.out
          clear b8 HI7 p7 Q7 O7 HU k7 HX
          cases z with
          | false =>
            rw [if_neg (by decide)] at hx
            subst hx
            have c0 := box_cell q8 0
            have c1 := box_cell q8 1
            have c2 := box_cell q8 2
            have c3 := box_cell q8 3
            have c4 := box_cell q8 4
            have O9 : OwnQy w8 (w.heap.size + 1) Hh ch R5 cr5 none 0 ⟨h, ga, gs, l, []⟩ := ⟨ren_mono U8.out (by omega), O8.out.mono (by omega), World.ownsRow_nil _ _ _ _⟩
            clear q8 U8 O8 HZ HKy HRu
            go_wp2_with (refine wpList_stored2 rfl rfl rfl rfl p8 infoQyP rfl rfl ?_; intro w9 hz9 hg9)
            refine bodyPost_ret (by simp [results, Tryz.results26, go_sem, cell_res hz9]; rfl) rfl ?_
            exact ⟨⟨_, _, _, _, _, _, by rfl, (O9.far hg9 (by omega)).mono (by omega)⟩, k8.trans (grown_below' hg9 (by omega) (by omega))⟩
            
          | true =>
            rw [if_pos rfl] at hx
            have hrx := HZ.out rfl
            obtain ⟨ok, hok⟩ : ∃ ok, keysS (tkL L) L.length (rx + 1) [] = ok := ⟨_, rfl⟩
            have HK := hid (HKy.out w8 k8 (rx + 1) hrx ok hok)
            rw [hok] at hx
            have HX := hid hx
            rw [show (((rx + 1 : Nat)) : Int) = (rx : Int) + 1 by omega] at HK
            clear hok hx HKy HRu HZ
            go_wp2_with fail
            refine HK.out.mono ?_
            rintro e w10 hm
            have hx := HX.out
            cases ok with
            | bad eb =>
              obtain ⟨rfl, b10⟩ := hm
              simp only at hx
              subst hx
              have k10 := k8.trans (b10.mono k8.size)
              have p10 := (b10.block w.heap.size (by omega)).trans p8
              have q10 := (b10.block w1.heap.size (by omega)).trans q8
              have c0 := box_cell q10 0
              have c1 := box_cell q10 1
              have c2 := box_cell q10 2
              have c3 := box_cell q10 3
              have c4 := box_cell q10 4
              clear p8 q8 q10 U8 O8 HK b10 HX
              go_wp2_with (refine wpList_store_res rfl rfl rfl rfl p10 infoQyP rfl rfl ?_; intro w9 hz9 hb9)
              refine bodyPost_ret (by simp [results, Tryz.results26, go_sem, cell_res hz9]; rfl) rfl ?_
              exact ⟨⟨_, _, _, _, _, _, _, _, _, _, _, _, by rfl⟩, k10.trans (hb9.mono (by omega))⟩
            | ok ks kx =>
              obtain ⟨u, rfl, hown, b10⟩ := hm
              obtain ⟨Ko, ko, rfl⟩ := own_shape hown
              simp only at hx
              subst hx
              have k10 := k8.trans (b10.mono k8.size)
              have s10 := b10.size
              have p10 := (b10.block w.heap.size (by omega)).trans p8
              have q10 := (b10.block w1.heap.size (by omega)).trans q8
              have f4 := box_free q10 4
              have c4 := box_cell q10 4
              have B10 := B8.out.trans (b10.mono (by omega))
              have O10 := O8.out.below b10
              have hg11 := ren_set w10 w1.heap.size 4 (.slice Ko ks.length ko)
              have q11 : (w10.setCell ⟨w1.heap.size, 4, none⟩ (.slice Ko ks.length ko)).heap[w1.heap.size]? = some (qyO Hh h.length ch ga ⟨gs.toArray⟩ R5 l.length cr5 Ko ks.length ko) := box_set q10 4 (.slice Ko ks.length ko)
              have p11 := (hg11.block w.heap.size (by omega) (by simp; omega)).trans p10
              have B11 := B10.trans (grown_below' hg11 (Nat.le_refl _) (by omega))
              have s11 := hg11.size
              have hOK : OwnQy (w10.setCell ⟨w1.heap.size, 4, none⟩ (.slice Ko ks.length ko)) (w.heap.size + 1) Hh ch R5 cr5 Ko ko ⟨h, ga, gs, l, ks⟩ := ⟨ren_mono (own_belowS O1.out B11) (by omega), (O10.far hg11 (by omega)).mono (by omega), ren_mono (ren_far hown hg11 (by omega)) (by omega)⟩
              have HOK := hid hOK
              have P11 := hid p11
              have Q11 := hid q11
              have K11 := hid (k1.trans (B11.mono k1.size))
              clear p8 q8 q10 p10 U8 O8 HK b10 HX hown O10 hg11 q11 p11 B10 B11 hOK B8 k10
              go_upto_region 16 with fail
              clear c4 f4
              generalize w10.setCell ⟨w1.heap.size, 4, none⟩ (.slice Ko ks.length ko) = w11 at *
              have c0 := box_cell Q11.out 0
              have c1 := box_cell Q11.out 1
              have c2 := box_cell Q11.out 2
              have c3 := box_cell Q11.out 3
              have c4 := box_cell Q11.out 4
              have p11 := P11.out
              go_wp2_with (refine wpList_stored2 rfl rfl rfl rfl p11 infoQyP rfl rfl ?_; intro w9 hz9 hg9)
              refine bodyPost_ret (by simp [results, Tryz.results26, go_sem, cell_res hz9]; rfl) rfl ?_
              exact ⟨⟨_, _, _, _, _, _, by rfl, (HOK.out.far hg9 (by omega)).mono (by omega)⟩, K11.out.trans (grown_below' hg9 (by omega) (by omega))⟩
end
end Go.Proofs.YtnbacdmlaedppaaGreatDoor
