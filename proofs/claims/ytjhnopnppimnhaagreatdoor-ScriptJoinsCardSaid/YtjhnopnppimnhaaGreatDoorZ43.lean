/-
  PARTS of a claim, merged by segs.py: Sk24.
-/
import Derived.Test.YtjhnopnppimnhaaGreatDoorZ40
import Derived.Test.YtjhnopnppimnhaaGreatDoorZ42
import Derived.Test.YtjhnopnppimnhaaGreatDoorZ07
import Derived.BigQuiet
import Derived.IntWalk
namespace Go.Proofs.YtjhnopnppimnhaaGreatDoor

/-! ### Sk24 -/
section
open Go.RowKit

theorem cmds_line : ∀ (D : List Str) (n : Nat) (x : Nat × Cm), x ∈ cmdsOf n D → x.1 ≤ n + D.length
  | [], _, x, h => by cases h
  | y :: D, n, x, h => by
    rw [cmdsOf_cons, List.mem_append] at h
    rcases h with h | h
    · split at h
      · cases h
      · have : x = (n, (lineS y).1) := by simpa using h
        rw [this]; simp
    · have := cmds_line D (n + 1) x h
      simp only [List.length_cons]; omega
theorem cmds_good : ∀ (D : List Str) (n : Nat) (x : Nat × Cm), GoodL D → x ∈ cmdsOf n D → ∃ y ∈ D, textC x.2 = y ++ [10] ∧ CmOk x.2
  | [], _, x, _, h => by cases h
  | y :: D, n, x, hD, h => by
    rw [cmdsOf_cons, List.mem_append] at h
    rcases h with h | h
    · split at h
      · cases h
      · rename_i hb
        have : x = (n, (lineS y).1) := by simpa using h
        obtain ⟨g1, g2⟩ := good_line (hD y (List.mem_cons_self ..)) (by simpa using hb)
        rw [this]
        exact ⟨y, List.mem_cons_self .., g1, g2⟩
    · obtain ⟨z, hz, g⟩ := cmds_good D (n + 1) x (fun z hz => hD z (List.mem_cons_of_mem _ hz)) h
      exact ⟨z, List.mem_cons_of_mem _ hz, g⟩
theorem cm_small {c : Cm} (h : CmOk c) {N : Nat} (hN : (textC c).length ≤ N) : c.nums.length ≤ N ∧ c.row.length ≤ N := by
  have e : textC c = nam6.getD c.op [] ++ flat32 (partsC c) ++ [10] := rfl
  rw [e, List.length_append, List.length_append] at hN
  constructor
  · have := len_flat (partsC c)
    unfold partsC at this hN
    simp only [List.length_append, List.length_map] at this
    omega
  · cases hr : (shpOf c.op).row with
    | false => rw [h.noR hr]; exact Nat.zero_le _
    | true =>
      have h1 := row_len (h.row hr).1
      have h2 := mem_flat (p := rowTextL c.row) (l := partsC c) (by unfold partsC; rw [hr, if_pos rfl]; simp)
      omega
theorem line_small {D : List Str} {y : Str} (h : y ∈ D) : y.length ≤ (linesT D).length := by
  unfold linesT
  induction D with
  | nil => cases h
  | cons z D ih =>
    rw [List.flatMap_cons, List.length_append, List.length_append]
    rcases List.mem_cons.1 h with rfl | h
    · omega
    · have := ih h; omega
theorem cms_at {w : World} {A : Option Addr} {l : List (Nat × Cm)} (h : CmsAt w A l) {k : Nat} (hk : k < l.length) {n : Nat} {c : Cm} (e : l[k] = (n, c)) : ∃ b o T t R r, A = some ⟨b, o, none⟩ ∧ (w.cell? ⟨b, o + k * 6, none⟩ = some (.int .i64 n) ∧ w.cell? ⟨b, o + k * 6 + 1, none⟩ = some (.int .i64 c.op) ∧ w.cell? ⟨b, o + k * 6 + 2, none⟩ = some (.string ⟨c.name.toArray⟩) ∧ w.cell? ⟨b, o + k * 6 + 3, none⟩ = some (.slice T c.nums.length t) ∧ w.cell? ⟨b, o + k * 6 + 4, none⟩ = some (.slice R c.row.length r) ∧ w.cell? ⟨b, o + k * 6 + 5, none⟩ = some (.string ⟨c.query.toArray⟩)) ∧ CmAt w T t R r c := by
  obtain ⟨b, o, rfl, hc⟩ := h (by omega)
  obtain ⟨T, t, R, r, h0, h1, h2, h3, h4, h5, h6, h7, h8, h9⟩ := hc k hk
  rw [e] at h0 h1 h2 h3 h4 h5 h6 h7 h8 h9
  exact ⟨b, o, T, t, R, r, rfl, ⟨h0, h1, h2, h3, h4, h5⟩, ⟨h6, h7, h8, h9⟩⟩

set_option maxRecDepth 100000 in
set_option maxHeartbeats 8000000 in
theorem law_joins60 (s t : ByteArray) (w : World) (hE : EnvS w) : Calls Tryz.prog 6 #[.string s, .string t] w fun e w' => e = .returned (.bool true) ∧ Below w.heap.size w w' := by
  have HAw := hid (awake60 w hE)
  by_cases hs : 2000 < s.size ∨ 2000 < t.size
  · have hcase : (2000 : Int) < s.size ∨ (¬ (2000 : Int) < s.size ∧ (2000 : Int) < t.size) := by omega
    clear hE hs
    rcases hcase with h0 | ⟨h0, h1⟩
    all_goals
      go_enter Tryz.func6, Tryz.ntmps6
      go_wp2_with fail
      refine HAw.out.mono ?_
      rintro e w1 ⟨rfl, k1⟩
      clear HAw
      go_wp2
      go_ret
      exact ⟨rfl, k1⟩
  · have i1 : ¬ (2000 : Int) < s.size := by omega
    have i2 : ¬ (2000 : Int) < t.size := by omega
    have hs3 : s.size ≤ 2000 := by omega
    have ht3 : t.size ≤ 2000 := by omega
    have e0 : ¬ 9223372036854775807 < s.size + t.size := by omega
    obtain ⟨⟨cs, n, e⟩, hX⟩ : ∃ X, scriptS s.data.toList = X := ⟨_, rfl⟩
    obtain ⟨⟨ds, m, f⟩, hY⟩ : ∃ X, scriptS t.data.toList = X := ⟨_, rfl⟩
    obtain ⟨⟨es, q, g⟩, hZ⟩ : ∃ X, scriptS (s ++ t).data.toList = X := ⟨_, rfl⟩
    have HP1 := hid (fun W (q : Below w.heap.size w W) => scr_parse s W (hE.below q) hX)
    have HP2 := hid (fun W (q : Below w.heap.size w W) => scr_parse t W (hE.below q) hY)
    have HP3 := hid (fun W (q : Below w.heap.size w W) => scr_parse (s ++ t) W (hE.below q) hZ)
    have hst : (s ++ t).data.toList = s.data.toList ++ t.data.toList := by rw [ByteArray.data_append, Array.toList_append]
    rw [hst] at hZ
    have hls := len_b s
    have hlt := len_b t
    obtain ⟨L, hL⟩ : ∃ L, splitL s.data.toList = L := ⟨_, rfl⟩
    have HLi := hid (fun W => law_lines s W (by omega) hL)
    have h0L : 0 < L.length := by have := splitL_ne s.data.toList; rw [hL] at this; exact List.length_pos_iff.2 this
    have hLl : L.length ≤ 2001 := by have := splitL_len s.data.toList; rw [hL, hls] at this; omega
    by_cases he : e ≠ 0
    · have hb0 : (e != 0) = true := by simpa using he
      clear hX hY hZ hls hlt hs hE hst hL HLi he
      go_enter Tryz.func6, Tryz.ntmps6
      go_wp2_with fail
      refine HAw.out.mono ?_
      rintro e' w1 ⟨rfl, k1⟩
      clear HAw
      go_wp2_with fail
      refine (HP1.out w1 k1).mono ?_
      rintro e' w2 ⟨A2, c2, rfl, -, -, b2⟩
      have K2 := hid (k1.trans (b2.mono k1.size))
      clear HP1 b2
      go_wp2_with fail
      refine (HP2.out w2 K2.out).mono ?_
      rintro e' w3 ⟨A3, c3, rfl, -, -, b3⟩
      have K3 := hid (K2.out.trans (b3.mono K2.out.size))
      clear HP2 b3
      go_wp2_with fail
      refine (HP3.out w3 K3.out).mono ?_
      rintro e' w4 ⟨A4, c4, rfl, -, -, b4⟩
      have K4 := hid (K3.out.trans (b4.mono K3.out.size))
      clear HP3 b4
      go_wp2
      go_ret
      exact ⟨rfl, K4.out⟩
    · have he0 : e = 0 := by omega
      subst he0
      obtain ⟨-, j2, j3, j4⟩ := joins_plain hX hY (by rw [hls]; exact hs3) (by rw [hlt]; exact ht3)
      rw [hL] at j3 j4
      obtain ⟨B, hB⟩ : ∃ B, L.length = B + 1 := ⟨L.length - 1, by omega⟩
      rw [hB, Nat.add_sub_cancel] at j3 j4
      have hB2 : B ≤ 2001 := by omega
      by_cases hf : f ≠ 0
      · have hz := j3 hf
        rw [hZ] at hz
        injection hz with z1 z2
        injection z2 with z2 z3
        subst z1 z2 z3
        have hb0 : (g != 0) = true := by simpa using hf
        have hgg : (g == g) = true := by simp
        have hmm : m ≤ 2002 := by
          obtain ⟨D, y, R, s1, _, _, _, s5⟩ := script_bad hY hf (by omega)
          have := splitL_len t.data.toList
          rw [s1, hlt] at this
          simp only [List.length_append, List.length_cons] at this
          omega
        have hBm : ((B : Int) + m == (B : Int) + m) = true := by simp
        clear hX hY hZ hls hlt hs hE hst hL j2 j3 j4 hf
        go_enter Tryz.func6, Tryz.ntmps6
        go_wp2_with fail
        refine HAw.out.mono ?_
        rintro e' w1 ⟨rfl, k1⟩
        clear HAw
        go_wp2_with fail
        refine (HP1.out w1 k1).mono ?_
        rintro e' w2 ⟨A2, c2, rfl, -, -, b2⟩
        have K2 := hid (k1.trans (b2.mono k1.size))
        clear HP1 b2
        go_wp2_with fail
        refine (HP2.out w2 K2.out).mono ?_
        rintro e' w3 ⟨A3, c3, rfl, -, -, b3⟩
        have K3 := hid (K2.out.trans (b3.mono K2.out.size))
        clear HP2 b3
        go_wp2_with fail
        refine (HP3.out w3 K3.out).mono ?_
        rintro e' w4 ⟨A4, c4, rfl, -, -, b4⟩
        have K4 := hid (K3.out.trans (b4.mono K3.out.size))
        clear HP3 b4
        go_wp2_with fail
        refine (HLi.out w4).mono ?_
        rintro e' w5 ⟨v5, rfl, ho5, b5⟩
        have K5 := hid (K4.out.trans (b5.mono K4.out.size))
        obtain ⟨bb, oo, cc, rfl, hc, -⟩ := strs_own ho5 h0L
        rw [hB]
        clear HLi ho5 b5
        go_wp2
        go_ret
        exact ⟨rfl, K5.out⟩
      · have hf0 : f = 0 := by omega
        subst hf0
        have hz := j4 rfl
        rw [hZ] at hz
        injection hz with z1 z2
        injection z2 with z2 z3
        subst z2 z3
        obtain ⟨D1, a1, a2, a3, a4, a5, a6⟩ := script_ok hX
        obtain ⟨D2, b1, b2, b3, b4, b5, b6⟩ := script_ok hY
        subst a5 b5
        have HLn1 := hid (fun k (h : k < cs.length) => show cs[k].1 ≤ 5000 by
          have h1 := cmds_line D1 1 cs[k] (by rw [← a4]; exact List.getElem_mem h)
          have h2 := splitL_len s.data.toList
          rw [a1, hls] at h2
          simp only [List.length_append, List.length_cons, List.length_nil] at h2
          omega)
        have HLn2 := hid (fun k (h : k < ds.length) => show ds[k].1 ≤ 5000 by
          have h1 := cmds_line D2 1 ds[k] (by rw [← b4]; exact List.getElem_mem h)
          have h2 := splitL_len t.data.toList
          rw [b1, hlt] at h2
          simp only [List.length_append, List.length_cons, List.length_nil] at h2
          omega)
        have HG1 := hid (fun k (h : k < cs.length) (h' : k < es.length) => show es[k] = cs[k] by simp only [z1]; exact List.getElem_append_left h)
        have HG2 := hid (fun k (h : k < ds.length) (h' : cs.length + k < es.length) => show es[cs.length + k] = (ds[k].1 + B, ds[k].2) by
          simp only [z1]
          rw [List.getElem_append_right (by omega)]
          simp)
        have hel : es.length = cs.length + ds.length := by rw [z1]; simp
        have HSz1 := hid (fun k (h : k < cs.length) => show cs[k].2.nums.length ≤ 5000 ∧ cs[k].2.row.length ≤ 5000 by
          obtain ⟨y, hy, g1, g2⟩ := cmds_good D1 1 cs[k] a3 (by rw [← a4]; exact List.getElem_mem h)
          have h1 := line_small hy
          rw [← a2, hls] at h1
          exact cm_small g2 (by rw [g1, List.length_append]; simp only [List.length_cons, List.length_nil]; omega))
        have HSz2 := hid (fun k (h : k < ds.length) => show ds[k].2.nums.length ≤ 5000 ∧ ds[k].2.row.length ≤ 5000 by
          obtain ⟨y, hy, g1, g2⟩ := cmds_good D2 1 ds[k] b3 (by rw [← b4]; exact List.getElem_mem h)
          have h1 := line_small hy
          rw [← b2, hlt] at h1
          exact cm_small g2 (by rw [g1, List.length_append]; simp only [List.length_cons, List.length_nil]; omega))
        have hneq : ((es.length : Int) != (cs.length : Int) + ds.length) = false := by rw [hel]; simp
        have HEl := hid hel
        clear hX hY hZ hls hlt hs hE hst hL j2 j3 j4 he hf z1 a1 a2 a3 a4 a6 b1 b2 b3 b4 b6 hel
        go_enter Tryz.func6, Tryz.ntmps6
        go_wp2_with fail
        refine HAw.out.mono ?_
        rintro e' w1 ⟨rfl, k1⟩
        clear HAw
        go_wp2_with fail
        refine (HP1.out w1 k1).mono ?_
        rintro e' w2 ⟨A2, c2, rfl, o2, l2, b2⟩
        obtain ⟨A', c', e1, m2, -⟩ := own_cms o2
        injection e1 with e1 _ e2
        subst e1 e2
        have K2 := hid (k1.trans (b2.mono k1.size))
        have M2 := hid m2
        clear HP1 b2 m2 o2 k1
        go_wp2_with fail
        refine (HP2.out w2 K2.out).mono ?_
        rintro e' w3 ⟨A3, c3, rfl, o3, l3, b3⟩
        obtain ⟨A', c', e1, m3, -⟩ := own_cms o3
        injection e1 with e1 _ e2
        subst e1 e2
        have K3 := hid (K2.out.trans (b3.mono K2.out.size))
        have M3 := hid m3
        have M2' := hid (M2.out.below b3)
        clear HP2 b3 m3 o3 M2
        go_wp2_with fail
        refine (HP3.out w3 K3.out).mono ?_
        rintro e' w4 ⟨A4, c4, rfl, o4, l4, b4⟩
        obtain ⟨A', c', e1, m4, -⟩ := own_cms o4
        injection e1 with e1 _ e2
        subst e1 e2
        have K4 := hid (K3.out.trans (b4.mono K3.out.size))
        have M4 := hid m4
        have M3' := hid (M3.out.below b4)
        have M2'' := hid (M2'.out.below b4)
        clear HP3 b4 m4 o4 M3 M2'
        go_wp2_with fail
        refine (HLi.out w4).mono ?_
        rintro e' w5 ⟨v5, rfl, ho5, b5⟩
        have K5 := hid (K4.out.trans (b5.mono K4.out.size))
        obtain ⟨bb, oo, cc, rfl, hc, -⟩ := strs_own ho5 h0L
        rw [hB]
        have M5 := hid (M4.out.below b5)
        have N5 := hid (M3'.out.below b5)
        have P5 := hid (M2''.out.below b5)
        clear HLi ho5 b5 M4 M3' M2''
        go_wp2_with fail
        go_loopw [15] (fun i wr => ∃ k : Nat, k ≤ cs.length ∧ i = .int .i64 k ∧ Hid (Below w5.heap.size w5 wr)) (fun i _ => cs.length - (intOf i).toNat)
        case atStart => exact ⟨0, by omega, rfl, hid (Below.refl _ _)⟩
        case round =>
          obtain ⟨k, hk, rfl, HK⟩ := hrel
          by_cases hkc : k < cs.length
          · have hke : k < es.length := by rw [HEl.out]; omega
            have h1 := HG1.out k hkc hke
            have hsz := HSz1.out k hkc
            obtain ⟨ln, c, hcc⟩ : ∃ ln c, cs[k] = (ln, c) := ⟨_, _, rfl⟩
            rw [hcc] at h1 hsz
            obtain ⟨b1, p1, T1, t1, R1, r1, rfl, ⟨x0, x1, x2, x3, x4, x5⟩, q1⟩ := cms_at (M5.out.below HK.out) hke h1
            obtain ⟨b2, p2, T2, t2, R2, r2, rfl, ⟨y0, y1, y2, y3, y4, y5⟩, q2⟩ := cms_at (P5.out.below HK.out) hkc hcc
            have HSm := fun p : BelowBy wr => hid (law_same ln ln c T1 R1 T2 R2 t1 r1 t2 r2 p.to (q1.below p.le) (q2.below p.le) (by simp only at hsz; omega) (by simp only at hsz; omega))
            have hln : ((ln : Int) != ln) = false := by simp
            have u1 : (0 : Int) ≤ k := by omega
            have u2 : (k : Int) < es.length := by omega
            have u3 : (k : Int) < cs.length := by omega
            replace x0 := fun p : BelowBy wr => by_cell x0 p
            replace x1 := fun p : BelowBy wr => by_cell x1 p
            replace x2 := fun p : BelowBy wr => by_cell x2 p
            replace x3 := fun p : BelowBy wr => by_cell x3 p
            replace x4 := fun p : BelowBy wr => by_cell x4 p
            replace x5 := fun p : BelowBy wr => by_cell x5 p
            replace y0 := fun p : BelowBy wr => by_cell y0 p
            replace y1 := fun p : BelowBy wr => by_cell y1 p
            replace y2 := fun p : BelowBy wr => by_cell y2 p
            replace y3 := fun p : BelowBy wr => by_cell y3 p
            replace y4 := fun p : BelowBy wr => by_cell y4 p
            replace y5 := fun p : BelowBy wr => by_cell y5 p
            clear h1 hcc hsz q1 q2 M5 N5 P5 HG1 HG2 HLn1 HLn2 HSz1 HSz2
            go_wp2_with fail
            refine wp_region_below (by kernel_rfl) (by kernel_rfl) ?_
            repeat (go_big_quiet_step (first | with_reducible exact calls_by (HSm _).out))
            refine wpQuiet_nil ?_
            rintro wq ⟨⟨wqx, kq⟩, rfl⟩
            go_wp2
            go_roundw
            case rel => exact ⟨k + 1, by omega, by go_num, hid (HK.out.trans (kq.mono HK.out.size))⟩
            case measure => simp [intOf]; omega
          · clear HG1 HLn1 HSz1
            go_wp2_with fail
            go_loopw [16] (fun i wr => ∃ k : Nat, k ≤ ds.length ∧ i = .int .i64 k ∧ Hid (Below w5.heap.size w5 wr)) (fun i _ => ds.length - (intOf i).toNat)
            case atStart => exact ⟨0, by omega, rfl, HK⟩
            case round =>
              obtain ⟨k, hk, rfl, HK⟩ := hrel
              by_cases hkc : k < ds.length
              · have hke : cs.length + k < es.length := by rw [HEl.out]; omega
                have h1 := HG2.out k hkc hke
                have hsz := HSz2.out k hkc
                have hll := HLn2.out k hkc
                obtain ⟨ln, c, hcc⟩ : ∃ ln c, ds[k] = (ln, c) := ⟨_, _, rfl⟩
                rw [hcc] at h1 hsz hll
                simp only at hsz hll h1
                obtain ⟨b1, p1, T1, t1, R1, r1, rfl, ⟨x0, x1, x2, x3, x4, x5⟩, q1⟩ := cms_at (M5.out.below HK.out) hke h1
                obtain ⟨b2, p2, T2, t2, R2, r2, rfl, ⟨y0, y1, y2, y3, y4, y5⟩, q2⟩ := cms_at (N5.out.below HK.out) hkc hcc
                replace x0 : wr.cell? ⟨b1, p1 + (cs.length + k) * 6, none⟩ = some (.int .i64 ((ln : Int) + B)) := by rw [x0, Int.natCast_add]
                have HSm := fun p : BelowBy wr => hid (law_same ((ln : Int) + B) ln c T1 R1 T2 R2 t1 r1 t2 r2 p.to (q1.below p.le) (q2.below p.le) (by omega) (by omega))
                have hln : (((ln : Int) + B) != ((B : Int) + ln)) = false := by simp only [bne_eq_false_iff_eq]; omega
                have u1 : (0 : Int) ≤ k := by omega
                have u2 : (cs.length : Int) + k < es.length := by omega
                have u3 : (k : Int) < ds.length := by omega
                have u4 : (0 : Int) ≤ (cs.length : Int) + k := by omega
                have W1 : IntKind.i64.wrap ((cs.length : Int) + k) = cs.length + k := IntWalk.i64_in _ (by omega)
                have W2 : IntKind.i64.wrap ((B : Int) + ln) = B + ln := IntWalk.i64_in _ (by omega)
                have N1 : ((cs.length : Int) + k).toNat = cs.length + k := by omega
                replace x0 := fun p : BelowBy wr => by_cell x0 p
                replace x1 := fun p : BelowBy wr => by_cell x1 p
                replace x2 := fun p : BelowBy wr => by_cell x2 p
                replace x3 := fun p : BelowBy wr => by_cell x3 p
                replace x4 := fun p : BelowBy wr => by_cell x4 p
                replace x5 := fun p : BelowBy wr => by_cell x5 p
                replace y0 := fun p : BelowBy wr => by_cell y0 p
                replace y1 := fun p : BelowBy wr => by_cell y1 p
                replace y2 := fun p : BelowBy wr => by_cell y2 p
                replace y3 := fun p : BelowBy wr => by_cell y3 p
                replace y4 := fun p : BelowBy wr => by_cell y4 p
                replace y5 := fun p : BelowBy wr => by_cell y5 p
                clear h1 hcc hsz q1 q2 M5 N5 P5 HG2 HLn2 HSz2
                go_wp2_with fail
                refine wp_region_below (by kernel_rfl) (by kernel_rfl) ?_
                repeat (go_big_quiet_step (first | with_reducible exact calls_by (HSm _).out))
                refine wpQuiet_nil ?_
                rintro wq ⟨⟨wqx, kq⟩, rfl⟩
                go_wp2
                go_roundw
                case rel => exact ⟨k + 1, by omega, by go_num, hid (HK.out.trans (kq.mono HK.out.size))⟩
                case measure => simp [intOf]; omega
              · have KF := hid (K5.out.trans (HK.out.mono K5.out.size))
                clear M5 N5 P5 HG2 HLn2 HSz2
                go_wp2
                go_ret
                exact ⟨rfl, KF.out⟩
end
end Go.Proofs.YtjhnopnppimnhaaGreatDoor
