/-
  WALK: the law AstMoves.
-/
import Derived.Test.YtgeapgbebbapmaaDoorAw19
import Derived.Test.YtgeapgbebbapmaaDoorOrd2
import Derived.Test.YtgeapgbebbapmaaDoorRen3
import Derived.BigQuiet
namespace Go.Proofs.YtgeapgbebbapmaaDoor
open Go.RowKit

/-- The cells of three boxes at once. -/
theorem mv_boxes {w w' : World} {v0 v1 v2 v3 v4 x y : Value} {t t1 t2 : TypeId} (h : Below (w.heap.size + 3) (((w.alloc (.cells #[v0, v1, v2, v3, v4] t)).alloc (.cells #[x] t1)).alloc (.cells #[y] t2)) w') :
    (w'.cell? ⟨w.heap.size, 0, none⟩ = some v0 ∧ w'.cell? ⟨w.heap.size, 1, none⟩ = some v1 ∧ w'.cell? ⟨w.heap.size, 2, none⟩ = some v2 ∧ w'.cell? ⟨w.heap.size, 3, none⟩ = some v3 ∧ w'.cell? ⟨w.heap.size, 4, none⟩ = some v4) ∧
    w'.cell? ⟨w.heap.size + 1, 0, none⟩ = some x ∧ w'.cell? ⟨w.heap.size + 2, 0, none⟩ = some y ∧
    w.heap.size < w'.heap.size ∧ w.heap.size + 1 < w'.heap.size ∧ w.heap.size + 2 < w'.heap.size ∧ Below w.heap.size w w' := by
  have hs := h.size
  simp only [World.size_alloc] at hs
  have e0 := heap_alloc_new w (.cells #[v0, v1, v2, v3, v4] t)
  have e1 := heap_alloc_new (w.alloc (.cells #[v0, v1, v2, v3, v4] t)) (.cells #[x] t1)
  have e2 := heap_alloc_new ((w.alloc (.cells #[v0, v1, v2, v3, v4] t)).alloc (.cells #[x] t1)) (.cells #[y] t2)
  simp only [World.size_alloc] at e1 e2
  have b1 := below_one (w.alloc (.cells #[v0, v1, v2, v3, v4] t)) (.cells #[x] t1)
  have b2 := below_one ((w.alloc (.cells #[v0, v1, v2, v3, v4] t)).alloc (.cells #[x] t1)) (.cells #[y] t2)
  have g2 : w'.heap[w.heap.size + 2]? = some (.cells #[y] t2) := (h.block _ (by omega)).trans e2
  have g1 : w'.heap[w.heap.size + 1]? = some (.cells #[x] t1) := (h.block _ (by omega)).trans ((b2.block _ (by simp)).trans e1)
  have g0 : w'.heap[w.heap.size]? = some (.cells #[v0, v1, v2, v3, v4] t) := (h.block _ (by omega)).trans ((b2.block _ (by simp; omega)).trans ((b1.block _ (by simp)).trans e0))
  exact ⟨⟨coh g0 (o := 0) rfl, coh g0 (o := 1) rfl, coh g0 (o := 2) rfl, coh g0 (o := 3) rfl, coh g0 (o := 4) rfl⟩, coh g1 (o := 0) rfl, coh g2 (o := 0) rfl, by omega, by omega, by omega,
    (((Below.refl _ w).alloc (Nat.le_refl _) _).trans ((b1.mono (by simp)).trans (b2.mono (by simp; omega)))).trans (h.mono (by omega))⟩
theorem nms2m {w : World} {g : Nat} {a b : Str} {X Y : ByteArray} (h0 : w.cell? ⟨g, 0, none⟩ = some (.string X)) (h1 : w.cell? ⟨g, 1, none⟩ = some (.string Y)) (ea : X.data.toList = a) (eb : Y.data.toList = b) : NmsAt w (some ⟨g, 0, none⟩) [a, b] := by
  subst ea eb
  exact fun _ => ⟨g, 0, rfl, fun i hi => by
    match i, hi with
    | 0, _ => exact h0
    | 1, _ => exact h1⟩
/-- Two literals of names. -/
theorem two_lits (w : World) {a b : Str} {X Z : ByteArray} (ea : X.data.toList = a) (eb : Z.data.toList = b) :
    NmsAt ((w.alloc (.cells #[.string X, .string Z] 9)).alloc (.cells #[.string Z, .string X] 9)) (some ⟨w.heap.size, 0, none⟩) [a, b] ∧
    NmsAt ((w.alloc (.cells #[.string X, .string Z] 9)).alloc (.cells #[.string Z, .string X] 9)) (some ⟨w.heap.size + 1, 0, none⟩) [b, a] ∧
    Below w.heap.size w ((w.alloc (.cells #[.string X, .string Z] 9)).alloc (.cells #[.string Z, .string X] 9)) := by
  have e0 := heap_alloc_new w (.cells #[.string X, .string Z] 9)
  have e1 := heap_alloc_new (w.alloc (.cells #[.string X, .string Z] 9)) (.cells #[.string Z, .string X] 9)
  simp only [World.size_alloc] at e1
  have b1 := below_one w (.cells #[.string X, .string Z] 9)
  have b2 := below_one (w.alloc (.cells #[.string X, .string Z] 9)) (.cells #[.string Z, .string X] 9)
  have g0 := (b2.block _ (by simp)).trans e0
  exact ⟨nms2m (coh g0 (o := 0) rfl) (coh g0 (o := 1) rfl) ea eb, nms2m (coh e1 (o := 0) rfl) (coh e1 (o := 1) rfl) eb ea, b1.trans (b2.mono (by simp))⟩
/-- A row of keys that a call has returned. -/
def RetKy (w : World) (l : List Ky) (n : Nat) (e : Ending) (w' : World) : Prop := ∃ A c, e = .returned (.slice A n c) ∧ KysAt w' A l ∧ Below w.heap.size w w'
theorem RetK.at {w w' : World} {l : List Ky} {n : Nat} {e : Ending} (h : RetK w l e w') (hn : l.length = n) : RetKy w l n e w' := by
  obtain ⟨v, rfl, ho, hb⟩ := h
  obtain ⟨A, c, rfl, hk, _⟩ := ren_keys ho
  subst hn
  exact ⟨A, c, rfl, hk, hb⟩
/-- A row of names that a call has returned. -/
def RetNv (w : World) (l : List Str) (n : Nat) (e : Ending) (w' : World) : Prop := ∃ A c, e = .returned (.slice A n c) ∧ NmsAt w' A l ∧ Below w.heap.size w w'
theorem vars_at (r : Rul) (T T' : Option Addr) (c c' n : Nat) (w : World) (ha : AtmsAt w T r.atoms) (hcn : CndsAt w T' r.conds) (hf : r.few) (hwf : r.wf) {x : List Str} (hx : varsL r = x) (hn : x.length = n) :
    Calls Tryd.prog 22 #[.agg #[.slice T r.atoms.length c, .slice T' r.conds.length c']] w (RetNv w x n) := by
  refine (ast_vars2 r T T' c c' w ha hcn hf hwf hx).mono ?_
  rintro e w' ⟨A, cap, B, rfl, hB, ho, hb⟩
  subst hn
  obtain ⟨_, _, hu, hA, _⟩ := own_names ho
  injection hu with e1 _ _
  subst e1
  exact ⟨_, _, rfl, hA, hb⟩
/-- The law's own exchange. -/
theorem mv_turn (K X Z L : ByteArray) (g : Nat) (w : World) (x0 : w.cell? ⟨g + 1, 0, none⟩ = some (.string X)) (z0 : w.cell? ⟨g + 2, 0, none⟩ = some (.string Z)) (hL : L.toList = turnF X.toList Z.toList K.toList) :
    Calls Tryd.prog 20 #[.string K, .pointer (some ⟨g + 1, 0, none⟩), .pointer (some ⟨g + 2, 0, none⟩)] w fun e w' => e = .returned (.string L) ∧ w' = w := by
  have ba : ∀ {A B : ByteArray}, A.toList = B.toList → A = B := fun {A B} h => by
    rw [Lib.toList_data, Lib.toList_data] at h
    exact ByteArray.ext (Array.toList_inj.1 h)
  unfold turnF at hL
  by_cases h1 : K.toList = X.toList
  · rw [if_pos h1] at hL
    have hLZ := ba hL
    subst hLZ
    have k1 : (K.toList == X.toList) = true := by simpa using h1
    clear hL h1 ba
    go_enter Tryd.func20, Tryd.ntmps20
    go_wp2
    go_ret
    exact ⟨rfl, rfl⟩
  · rw [if_neg h1] at hL
    have k1 : (K.toList == X.toList) = false := by simpa using h1
    by_cases h2 : K.toList = Z.toList
    · rw [if_pos h2] at hL
      have hLZ := ba hL
      subst hLZ
      have k2 : (K.toList == Z.toList) = true := by simpa using h2
      clear hL h1 h2 ba
      go_enter Tryd.func20, Tryd.ntmps20
      go_wp2
      go_ret
      exact ⟨rfl, rfl⟩
    · rw [if_neg h2] at hL
      have hLZ := ba hL
      subst hLZ
      have k2 : (L.toList == Z.toList) = false := by simpa using h2
      clear hL h1 h2 ba
      go_enter Tryd.func20, Tryd.ntmps20
      go_wp2
      go_ret
      exact ⟨rfl, rfl⟩

set_option maxRecDepth 100000 in
set_option maxHeartbeats 16000000 in
theorem law_moves19 (q : Qry) (X Z : ByteArray) (A R O : Option Addr) (ch cr co : Nat) (w : World) (hq : QryIn w q A R O ch cr co) (hwf : q.wf) (htab : Tab w) :
    Calls Tryd.prog 7 #[qryV q A R O ch cr co, .string X, .string Z] w fun e w' => e = .returned (.bool true) ∧ Below w.heap.size w w' := by
  obtain ⟨a, ha⟩ : ∃ a, X.data.toList = a := ⟨_, rfl⟩
  obtain ⟨b, hb⟩ : ∃ b, Z.data.toList = b := ⟨_, rfl⟩
  obtain ⟨y, ey⟩ : ∃ y, renE q [a, b] [b, a] = y := ⟨_, rfl⟩
  have CG := fun W h => hid (law_great19 q A R O ch cr co W h)
  have CA := fun W (b : Below w.heap.size w W) => hid (law_awake19 W (htab.below b))
  have C1 := fun W Fa Ta h (h1 : NmsAt W Fa [a, b]) (h2 : NmsAt W Ta [b, a]) l1 l2 => hid (ast_rename q [a, b] [b, a] A R O Fa Ta ch cr co 2 2 W h hwf h1 h2 l1 l2 (by simp) (by simp) ey)
  have CO := fun (h0 : checkQ q = 0) W h => hid (ast_order q A R O ch cr co W h hwf (check_some h0).h (check_some h0).o)
  have HQ := hid hq
  have HY := hid ey
  have HWF := hid hwf
  have HXa := hid ha
  have HZb := hid hb
  have hmf : ∀ (fn : Fn) (first cap : Array Value) (w : World), (Instr.makeFunc fn first cap).run Tryd.prog w = .ok (.func fn first cap) w := fun _ _ _ _ => rfl
  obtain ⟨Y, hY⟩ : ∃ Y : ByteArray, (⟨q.aggVar.toArray⟩ : ByteArray) = Y := ⟨_, rfl⟩
  have hqv : qryV q A R O ch cr co = .agg #[.slice A q.head.length ch, .int .i64 q.agg, .string Y, .slice R q.rules.length cr, .slice O q.order.length co] := by unfold qryV; rw [hY]
  simp only [hqv] at CG C1 CO ⊢
  have HB0 : Hid (Below (w.heap.size + 3) (((w.alloc (.cells #[.slice A q.head.length ch, .int .i64 q.agg, .string Y, .slice R q.rules.length cr, .slice O q.order.length co] 26)).alloc (.cells #[.string X] 9)).alloc (.cells #[.string Z] 9)) (((w.alloc (.cells #[.slice A q.head.length ch, .int .i64 q.agg, .string Y, .slice R q.rules.length cr, .slice O q.order.length co] 26)).alloc (.cells #[.string X] 9)).alloc (.cells #[.string Z] 9))) := hid (Below.refl _ _)
  obtain ⟨⟨q0, q1, q2, q3, q4⟩, x0, z0, ql, xl, zl, hbel⟩ := mv_boxes HB0.out
  clear hY hqv hq ey htab hwf ha hb
  go_enter Tryd.func7, Tryd.ntmps7
  go_wp2_with fail
  refine (CG _ (HQ.out.below hbel)).out.mono ?_
  rintro e w1 ⟨bg, rfl, b1⟩
  have HB1 := hid (HB0.out.trans (b1.mono (by simp)))
  clear CG b1 HB0 hbel q0 q1 q2 q3 q4 x0 z0 ql xl zl
  obtain ⟨⟨q0, q1, q2, q3, q4⟩, x0, z0, ql, xl, zl, hbel⟩ := mv_boxes HB1.out
  cases bg
  · by_cases lx : 100 < X.size
    · skip
      clear C1 CO q0 q1 q2 q3 q4
      go_wp2_with fail
      refine (CA _ hbel).out.mono ?_
      rintro e w6 ⟨rfl, b6⟩
      have hb6 := hbel.trans (b6.mono hbel.size)
      clear CA b6
      go_wp2
      go_ret
      exact ⟨rfl, hb6⟩
    · by_cases lz : 100 < Z.size
      · skip
        clear C1 CO q0 q1 q2 q3 q4
        go_wp2_with fail
        refine (CA _ hbel).out.mono ?_
        rintro e w6 ⟨rfl, b6⟩
        have hb6 := hbel.trans (b6.mono hbel.size)
        clear CA b6
        go_wp2
        go_ret
        exact ⟨rfl, hb6⟩
      · by_cases hxz : (X.toList == Z.toList) = true
        · skip
          clear C1 CO q0 q1 q2 q3 q4
          go_wp2_with fail
          refine (CA _ hbel).out.mono ?_
          rintro e w6 ⟨rfl, b6⟩
          have hb6 := hbel.trans (b6.mono hbel.size)
          clear CA b6
          go_wp2
          go_ret
          exact ⟨rfl, hb6⟩
        · have hxz2 : (X.toList == Z.toList) = false := (Bool.not_eq_true _).mp hxz
          obtain ⟨n1, n2, lb⟩ := two_lits w1 HXa.out HZb.out
          have N1 := hid n1
          have N2 := hid n2
          have hbl := hbel.trans (lb.mono hbel.size)
          have HLB := hid lb
          have hsa : a.length ≤ 100 := by rw [← HXa.out]; exact Nat.le_of_not_lt lx
          have hsb : b.length ≤ 100 := by rw [← HZb.out]; exact Nat.le_of_not_lt lz
          have hsab : ∀ s ∈ [a, b], s.length ≤ 9223372036854775807 := by intro s hs; simp only [List.mem_cons, List.not_mem_nil, or_false] at hs; rcases hs with rfl | rfl <;> omega
          have hsba : ∀ s ∈ [b, a], s.length ≤ 9223372036854775807 := by intro s hs; simp only [List.mem_cons, List.not_mem_nil, or_false] at hs; rcases hs with rfl | rfl <;> omega
          have C1' := fun Fa Ta W h (h1 : NmsAt W Fa [a, b]) (h2 : NmsAt W Ta [b, a]) => hid (C1 W Fa Ta h h1 h2 hsab hsba).out
          have CP0 := C1' (some ⟨w1.heap.size, 0, none⟩) (some ⟨w1.heap.size + 1, 0, none⟩) _ (HQ.out.below hbl) N1.out N2.out
          have HS1 := hid (show w.heap.size + 3 ≤ w1.heap.size by have := HB1.out.size; simpa using this)
          have HSAB := hid hsab
          have HSBA := hid hsba
          clear n1 n2 lb C1 C1' hsa hsb hsab hsba hxz
          go_wp2_with fail
          refine CP0.out.mono ?_
          rintro e w2 ⟨v, rfl, hv, b2⟩
          have HB2 := hid (HB1.out.trans ((HLB.out.mono HS1.out).trans (b2.mono (by have := HS1.out; have := HLB.out.size; omega))))
          clear CP0 b2 hbel hbl q0 q1 q2 q3 q4 x0 z0 ql xl zl
          obtain ⟨⟨q0, q1, q2, q3, q4⟩, x0, z0, ql, xl, zl, hbel⟩ := mv_boxes HB2.out
          rcases hv with ⟨hy, rfl⟩ | ⟨hy, A2, R2, O2, c1, c2, c3, rfl, hq2⟩
          · have by1 : (y != 0) = true := by simpa using hy
            have hb3 := hbel.trans ((below_one w2 (.cells #[.slice none 0 0, .int .i64 0, .string ⟨#[]⟩, .slice none 0 0, .slice none 0 0] 26)).mono hbel.size)
            clear CO q0 q1 q2 q3 q4
            go_wp2_with fail
            refine (CA _ hb3).out.mono ?_
            rintro e w6 ⟨rfl, b6⟩
            have hb6 := hb3.trans (b6.mono hb3.size)
            clear CA b6
            go_wp2
            go_ret
            exact ⟨rfl, hb6⟩
          · subst hy
            obtain ⟨hc0, _, _, _, hc1⟩ := renE_zero HY.out
            obtain ⟨hlk, hkk⟩ := moves_order HY.out
            have hvv := fun r (hr : r ∈ q.rules) => moves_vars HY.out hr
            have hpw := map_wf HWF.out (f := renF (zipF [a, b] [b, a])) (fun v hv => renF_len HSBA.out hv)
            have hpr : (mapQ (renF (zipF [a, b] [b, a])) q).rules.length = q.rules.length := by simp [mapQ]
            have hprs : ∀ i (hi : i < q.rules.length) (hi' : i < (mapQ (renF (zipF [a, b] [b, a])) q).rules.length), (mapQ (renF (zipF [a, b] [b, a])) q).rules[i] = mapR (renF (zipF [a, b] [b, a])) q.rules[i] := fun i hi hi' => by simp [mapQ]
            generalize renF (zipF [a, b] [b, a]) = F at *
            obtain ⟨P, hP⟩ : ∃ P, mapQ F q = P := ⟨_, rfl⟩
            rw [hP] at hc1 hlk hkk hpw hpr hprs hq2
            obtain ⟨Y2, hY2⟩ : ∃ Y : ByteArray, (⟨P.aggVar.toArray⟩ : ByteArray) = Y := ⟨_, rfl⟩
            have hpv : qryV P A2 R2 O2 c1 c2 c3 = .agg #[.slice A2 P.head.length c1, .int .i64 P.agg, .string Y2, .slice R2 q.rules.length c2, .slice O2 P.order.length c3] := by unfold qryV; rw [hY2, hpr]
            obtain ⟨LK, hLK⟩ : ∃ l, orderK q = l := ⟨_, rfl⟩
            obtain ⟨LL, hLL⟩ : ∃ l, orderK P = l := ⟨_, rfl⟩
            have hlkb : LK.length ≤ 200000 := by
              have h1 := orderK_len q
              have h2 := (check_some hc0).h
              have h3 := (check_some hc0).o
              rw [hLK] at h1
              omega
            have CK := fun W h => hid ((CO hc0 W h).out.mono fun e w' h => RetK.at (n := LK.length) h (by rw [hLK]))
            have CL := fun W h => hid ((ast_order P A2 R2 O2 c1 c2 c3 W h hpw (check_some hc1).h (check_some hc1).o).mono fun e w' h => RetK.at (n := LK.length) h (by rw [hlk, hLK]))
            rw [hLK] at hlk hkk CK
            rw [hLL] at hlk hkk CL
            have hpv2 : qryV (mapQ F q) A2 R2 O2 c1 c2 c3 = .agg #[.slice A2 P.head.length c1, .int .i64 P.agg, .string Y2, .slice R2 q.rules.length c2, .slice O2 P.order.length c3] := by rw [hP]; exact hpv
            simp only [hpv] at CL
            simp only [hpv2]
            have hqf := check_few hc0
            have hpf := check_few hc1
            have HC0 := hid hc0
            have HKK := hid hkk
            have HLK := hid hlk
            have HVV := hid hvv
            have HPRS := hid hprs
            have HPR := hid hpr
            have HQF := hid hqf.2
            have HPF := hid hpf.2
            have HPW := hid hpw
            have hr3 := hqf.1.2
            have hn := heap_alloc_new w2 (.cells #[.slice A2 P.head.length c1, .int .i64 P.agg, .string Y2, .slice R2 q.rules.length c2, .slice O2 P.order.length c3] 26)
            have hs2 : w2.heap.size < (w2.alloc (.cells #[.slice A2 P.head.length c1, .int .i64 P.agg, .string Y2, .slice R2 q.rules.length c2, .slice O2 P.order.length c3] 26)).heap.size := by simp
            have HQ2 : Hid (∀ w5, Below w2.heap.size w2 w5 → QryIn w5 P A2 R2 O2 c1 c2 c3) := hid fun w5 b => hq2 w5 (fun b' _ hb' => b.block b' hb')
            have HN := hid hn
            have HB2p := hid (below_one w2 (.cells #[.slice A2 P.head.length c1, .int .i64 P.agg, .string Y2, .slice R2 q.rules.length c2, .slice O2 P.order.length c3] 26))
            have HB3 := hid (HB2.out.trans (HB2p.out.mono (by have := HB2.out.size; simp only [World.size_alloc] at this; omega)))
            clear hn hq2 hpv hpv2 hY2 hc0 hc1 hlk hkk hvv hpw hpr hprs hqf hpf hP hLK hLL CO
            go_upto_region 7 with fail
            clear q0 q1 q2 q3 q4 x0 z0 ql xl zl hbel HB2
            generalize (w2.alloc (.cells #[.slice A2 P.head.length c1, .int .i64 P.agg, .string Y2, .slice R2 q.rules.length c2, .slice O2 P.order.length c3] 26)) = w3 at *
            obtain ⟨⟨q0, q1, q2, q3, q4⟩, x0, z0, ql, xl, zl, hbel⟩ := mv_boxes HB3.out
            obtain ⟨p0, p1, p2, p3, p4, pl⟩ := rbox HN.out
            have HQ3 := hid (HQ2.out w3 HB2p.out)
            have HP3 := hid HN.out
            clear HN HQ2 HB2p
            have QW := hid (fun W (b : Below w3.heap.size w3 W) => HQ.out.below (hbel.trans (b.mono hbel.size)))
            have PW := hid (fun W (b : Below w3.heap.size w3 W) => HQ3.out.below b)
            go_region_held3 (fun w' => w'.cell? ⟨w.heap.size, 0, none⟩ = some (.slice A q.head.length ch) ∧ w'.cell? ⟨w.heap.size, 1, none⟩ = some (.int .i64 q.agg) ∧ w'.cell? ⟨w.heap.size, 2, none⟩ = some (.string Y) ∧ w'.cell? ⟨w.heap.size, 3, none⟩ = some (.slice R q.rules.length cr) ∧ w'.cell? ⟨w.heap.size, 4, none⟩ = some (.slice O q.order.length co) ∧ w'.cell? ⟨w2.heap.size, 0, none⟩ = some (.slice A2 P.head.length c1) ∧ w'.cell? ⟨w2.heap.size, 1, none⟩ = some (.int .i64 P.agg) ∧ w'.cell? ⟨w2.heap.size, 2, none⟩ = some (.string Y2) ∧ w'.cell? ⟨w2.heap.size, 3, none⟩ = some (.slice R2 q.rules.length c2) ∧ w'.cell? ⟨w2.heap.size, 4, none⟩ = some (.slice O2 P.order.length c3)) (first | exact ⟨q0, q1, q2, q3, q4, p0, p1, p2, p3, p4⟩ | exact ⟨nq0, nq1, nq2, nq3, nq4, np0, np1, np2, np3, np4⟩ | exact ⟨mq0, mq1, mq2, mq3, mq4, mp0, mp1, mp2, mp3, mp4⟩ | assumption | fail)
              (first
                | (go_at_call 21; refine (CL _ (PW.out _ HB4.out)).out.mono ?_; rintro e w5 ⟨AL, cL, rfl, hl5, b5⟩; have mq0 := cell_keep b5 nq0; have mq1 := cell_keep b5 nq1; have mq2 := cell_keep b5 nq2; have mq3 := cell_keep b5 nq3; have mq4 := cell_keep b5 nq4; have mp0 := cell_keep b5 np0; have mp1 := cell_keep b5 np1; have mp2 := cell_keep b5 np2; have mp3 := cell_keep b5 np3; have mp4 := cell_keep b5 np4; have HK5 := hid (HK4.out.below b5); have HL5 := hid hl5; have HB5 : Hid (Below w3.heap.size w3 w5) := hid (HB4.out.trans (b5.mono HB4.out.size)); clear hl5 b5)
                | (go_at_call 21; refine (CK _ (QW.out _ (Below.refl _ w3).drew)).out.mono ?_; rintro e w4 ⟨AK, cK, rfl, hk4, b4⟩; have nq0 := cell_keep b4 q0; have nq1 := cell_keep b4 q1; have nq2 := cell_keep b4 q2; have nq3 := cell_keep b4 q3; have nq4 := cell_keep b4 q4; have np0 := cell_keep b4 p0; have np1 := cell_keep b4 p1; have np2 := cell_keep b4 p2; have np3 := cell_keep b4 p3; have np4 := cell_keep b4 p4; have HK4 := hid hk4; have HB4 : Hid (Below w3.heap.size w3 w4) := hid ((Below.refl _ w3).drew.trans b4); clear hk4 b4)
                | fail)
            all_goals
              clear q0 q1 q2 q3 q4 p0 p1 p2 p3 p4 nq0 nq1 nq2 nq3 nq4 np0 np1 np2 np3 np4 HK4 HB4 CK CL
              have hz5 := HB5.out.size
              have hbel5 := hbel.trans (HB5.out.mono hbel.size)
              have xl5 : w.heap.size + 1 < w5.heap.size := by omega
              have ql5 : w.heap.size < w5.heap.size := by omega
              have pl5 : w2.heap.size < w5.heap.size := by omega
              go_wp2
              clear mq0 mq1 mq2 mq3 mq4 mp0 mp1 mp2 mp3 mp4 xl5 ql5 pl5
              go_loopw [12] (fun i wr => ∃ k : Nat, k ≤ LK.length ∧ i = .int .i64 k ∧ Hid (Below w5.heap.size w5 wr)) (fun i _ => LK.length - (intOf i).toNat)
              case atStart => exact ⟨0, by omega, rfl, hid (Below.refl _ _)⟩
              case round =>
                obtain ⟨k, hk, rfl, HB⟩ := hrel
                have HW3 := hid (HB5.out.trans (HB.out.mono hz5))
                have x1 := cell_keep HW3.out x0
                have z1 := cell_keep HW3.out z0
                by_cases hlt : k < LK.length
                · have hlt2 : k < LL.length := by have := HLK.out; omega
                  obtain ⟨bk, ok, rfl, hck⟩ := HK5.out (by omega)
                  obtain ⟨bl, ol, rfl, hcl⟩ := HL5.out (by omega)
                  obtain ⟨e0, e1⟩ := hck k hlt
                  obtain ⟨f0, f1⟩ := hcl k hlt2
                  replace e0 := cell_keep HB.out e0
                  replace e1 := cell_keep HB.out e1
                  replace f0 := cell_keep HB.out f0
                  replace f1 := cell_keep HB.out f1
                  obtain ⟨g0, g1⟩ := HKK.out k hlt hlt2
                  obtain ⟨⟨kv, kd⟩, ek⟩ : ∃ y, LK[k] = y := ⟨_, rfl⟩
                  obtain ⟨⟨lv, ld⟩, el⟩ : ∃ y, LL[k] = y := ⟨_, rfl⟩
                  rw [ek] at e0 e1 g0 g1
                  rw [el] at f0 f1 g0 g1
                  simp only at e0 e1 f0 f1 g0 g1
                  subst g1
                  obtain ⟨K, hK, hKd, hKl⟩ := nm kv
                  obtain ⟨L, hL, hLd, hLl⟩ := nm lv
                  rw [hK] at e0
                  rw [hL] at f0
                  have hT : L.toList = turnF X.toList Z.toList K.toList := by rw [hLl, hKl, g0, Lib.toList_data, Lib.toList_data, HXa.out, HZb.out]
                  have HT := hid hT
                  have hll : (L.toList == L.toList) = true := by simp
                  have hk0 : (0 : Int) ≤ (k : Int) := by omega
                  have hk1 : (k : Int) < (LK.length : Int) := by omega
                  clear hck hcl ek el hK hKd hKl hL hLd hLl hT g0
                  go_upto_region 13 with fail
                  go_quiet (first | (go_at_call 20; refine Calls.quiet_of_same (mv_turn K X Z L w.heap.size _ x1 z1 HT.out)))
                  go_wp2
                  go_roundw
                  case rel => exact ⟨k + 1, by omega, by go_num, hid (below_drewN HB.out nq)⟩
                  case measure => simp [intOf]; omega
                · obtain ⟨⟨q0, q1, q2, q3, q4⟩, _, _, ql, xl, zl, hbel⟩ := mv_boxes (HB3.out.trans (HW3.out.mono (by have := HB3.out.size; simp only [World.size_alloc] at this; omega)))
                  have hpc := rbox ((HW3.out.block w2.heap.size pl).trans HP3.out)
                  obtain ⟨p0, p1, p2, p3, p4, pl6⟩ := hpc
                  go_wp2
                  clear q0 q1 q2 q3 q4 p0 p1 p2 p3 p4 ql xl zl pl6 hbel x1 z1 HKK HLK HK5 HL5 hk hlt hlkb
                  rename World => wo
                  go_loopw [13] (fun i wr => ∃ k : Nat, k ≤ q.rules.length ∧ i = .int .i64 k ∧ Hid (Below w5.heap.size w5 wr)) (fun i _ => q.rules.length - (intOf i).toNat)
                  case atStart => exact ⟨0, by omega, rfl, HB⟩
                  case round =>
                    clear HB HW3
                    obtain ⟨k2, hk, rfl, HB⟩ := hrel
                    have HW3 := hid (HB5.out.trans (HB.out.mono hz5))
                    obtain ⟨⟨q0, q1, q2, q3, q4⟩, x1, z1, ql, xl, zl, hbel6⟩ := mv_boxes (HB3.out.trans (HW3.out.mono (by have := HB3.out.size; simp only [World.size_alloc] at this; omega)))
                    have hpc := rbox ((HW3.out.block w2.heap.size pl).trans HP3.out)
                    obtain ⟨p0, p1, p2, p3, p4, pl6⟩ := hpc
                    by_cases hlt : k2 < q.rules.length
                    · have hlt2 : k2 < P.rules.length := by rw [HPR.out]; exact hlt
                      obtain ⟨br, orr, rfl, hcr⟩ := (QW.out _ HW3.out).rules (by omega)
                      obtain ⟨bs, os, rfl, hcs⟩ := (PW.out _ HW3.out).rules (by omega)
                      obtain ⟨T, ct, T2, ct2, r0, r1, ha, hcn, _, _, _, _⟩ := hcr k2 hlt
                      obtain ⟨U, cu, U2, cu2, s0, s1, hua, hucn, _, _, _, _⟩ := hcs k2 hlt2
                      have hf1 := HQF.out _ (List.getElem_mem hlt)
                      have hf2 := HPF.out _ (List.getElem_mem hlt2)
                      have hw1 := HWF.out.rules _ (List.getElem_mem hlt)
                      have hw2 := HPW.out.rules _ (List.getElem_mem hlt2)
                      obtain ⟨hvl, hvt⟩ := HVV.out _ (List.getElem_mem hlt)
                      rw [← HPRS.out k2 hlt hlt2] at hvl hvt
                      obtain ⟨r, er⟩ : ∃ r, q.rules[k2] = r := ⟨_, rfl⟩
                      obtain ⟨u, eu⟩ : ∃ r, P.rules[k2] = r := ⟨_, rfl⟩
                      rw [er] at r0 r1 ha hcn hf1 hw1 hvl hvt
                      rw [eu] at s0 s1 hua hucn hf2 hw2 hvl hvt
                      have hv8 : (varsL r).length ≤ 8 := by rw [← er]; exact check_vars HC0.out (List.getElem_mem hlt)
                      obtain ⟨V, eV⟩ : ∃ l, varsL r = l := ⟨_, rfl⟩
                      obtain ⟨V2, eV2⟩ : ∃ l, varsL u = l := ⟨_, rfl⟩
                      have C2 := fun W (b : Below wr.heap.size wr W) => hid (vars_at r T T2 ct ct2 V.length W (ha.below b) (hcn.below b) hf1 hw1 eV rfl)
                      have C3 := fun W (b : Below wr.heap.size wr W) => hid (vars_at u U U2 cu cu2 V.length W (hua.below b) (hucn.below b) hf2 hw2 eV2 (by rw [← eV2, ← eV]; exact hvl))
                      rw [eV] at hv8 hvt hvl
                      rw [eV2] at hvt hvl
                      have HVT := hid hvt
                      have HVL := hid hvl
                      have hk0 : (0 : Int) ≤ (k2 : Int) := by omega
                      have hk1 : (k2 : Int) < (q.rules.length : Int) := by omega
                      have hr5 := cell_lt r0
                      have hs5 := cell_lt s0
                      clear hcr hcs er eu eV eV2 ha hcn hua hucn hf1 hf2 hw1 hw2 hvt hvl q0 q1 q2 q4 p0 p1 p2 p4
                      go_upto_region 18 with fail
                      go_region_held3 (fun w' => w'.cell? ⟨w.heap.size, 3, none⟩ = some (.slice (some ⟨br, orr, none⟩) q.rules.length cr) ∧ w'.cell? ⟨w2.heap.size, 3, none⟩ = some (.slice (some ⟨bs, os, none⟩) q.rules.length c2) ∧ w'.cell? ⟨br, orr + k2 * 2, none⟩ = some (.slice T r.atoms.length ct) ∧ w'.cell? ⟨br, orr + k2 * 2 + 1, none⟩ = some (.slice T2 r.conds.length ct2) ∧ w'.cell? ⟨bs, os + k2 * 2, none⟩ = some (.slice U u.atoms.length cu) ∧ w'.cell? ⟨bs, os + k2 * 2 + 1, none⟩ = some (.slice U2 u.conds.length cu2)) (first | exact ⟨q3, p3, r0, r1, s0, s1⟩ | exact ⟨nq3, np3, nr0, nr1, ns0, ns1⟩ | exact ⟨mq3, mp3, mr0, mr1, ms0, ms1⟩ | assumption | fail)
                        (first
                          | (go_at_call 22; refine (C3 _ HB7.out).out.mono ?_; rintro e w8 ⟨AV2, cv2, rfl, hv2, b8⟩; have mq3 := cell_keep b8 nq3; have mp3 := cell_keep b8 np3; have mr0 := cell_keep b8 nr0; have mr1 := cell_keep b8 nr1; have ms0 := cell_keep b8 ns0; have ms1 := cell_keep b8 ns1; have HV8 := hid (HV7.out.below b8); have HU8 := hid hv2; have HB8 : Hid (Below wr.heap.size wr w8) := hid (HB7.out.trans (b8.mono HB7.out.size)); clear hv2 b8)
                          | (go_at_call 22; refine (C2 _ (Below.refl _ wr).drew).out.mono ?_; rintro e w7 ⟨AV, cv, rfl, hv1, b7⟩; have nq3 := cell_keep b7 q3; have np3 := cell_keep b7 p3; have nr0 := cell_keep b7 r0; have nr1 := cell_keep b7 r1; have ns0 := cell_keep b7 s0; have ns1 := cell_keep b7 s1; have HV7 := hid hv1; have HB7 : Hid (Below wr.heap.size wr w7) := hid ((Below.refl _ wr).drew.trans b7); clear hv1 b7)
                          | fail)
                      all_goals
                        clear q3 p3 r0 r1 s0 s1 nq3 np3 nr0 nr1 ns0 ns1 mq3 mp3 mr0 mr1 ms0 ms1 HV7 HB7 C2 C3
                        have HB58 := hid (HB.out.trans (HB8.out.mono HB.out.size))
                        have hz8 := HB58.out.size
                        have x8 := cell_keep HB8.out x1
                        have z8 := cell_keep HB8.out z1
                        clear HB HB8 HW3 x1 z1 hbel6
                        go_wp2
                        go_loopw [16] (fun i wr => ∃ j : Nat, j ≤ V.length ∧ i = .int .i64 j ∧ Hid (Below w8.heap.size w8 wr)) (fun i _ => V.length - (intOf i).toNat)
                        case atStart => exact ⟨0, by omega, rfl, hid (Below.refl _ _)⟩
                        case round =>
                          obtain ⟨j, hj, rfl, HB9⟩ := hrel
                          have x9 := cell_keep HB9.out x8
                          have z9 := cell_keep HB9.out z8
                          by_cases hlt3 : j < V.length
                          · have hlt4 : j < V2.length := by have := HVL.out; omega
                            obtain ⟨bv, ov, rfl, hcv⟩ := HV8.out (by omega)
                            obtain ⟨bu, ou, rfl, hcu⟩ := HU8.out (by omega)
                            have e0 := cell_keep HB9.out (hcv j hlt3)
                            have f0 := cell_keep HB9.out (hcu j hlt4)
                            have g0 := HVT.out j hlt3 hlt4
                            obtain ⟨kv, ek⟩ : ∃ y, V[j] = y := ⟨_, rfl⟩
                            obtain ⟨lv, el⟩ : ∃ y, V2[j] = y := ⟨_, rfl⟩
                            rw [ek] at e0 g0
                            rw [el] at f0 g0
                            obtain ⟨K, hK, hKd, hKl⟩ := nm kv
                            obtain ⟨L, hL, hLd, hLl⟩ := nm lv
                            rw [hK] at e0
                            rw [hL] at f0
                            have hT : L.toList = turnF X.toList Z.toList K.toList := by rw [hLl, hKl, g0, Lib.toList_data, Lib.toList_data, HXa.out, HZb.out]
                            have HT := hid hT
                            have hll : (L.toList == L.toList) = true := by simp
                            have hj0 : (0 : Int) ≤ (j : Int) := by omega
                            have hj1 : (j : Int) < (V.length : Int) := by omega
                            clear hcv hcu ek el hK hKd hKl hL hLd hLl hT g0
                            go_upto_region 24 with fail
                            go_quiet (first | (go_at_call 20; refine Calls.quiet_of_same (mv_turn K X Z L w.heap.size _ x9 z9 HT.out)))
                            go_wp2
                            go_roundw
                            case rel => exact ⟨j + 1, by omega, by go_num, hid (below_drewN HB9.out nq)⟩
                            case measure => simp [intOf]; omega
                          · go_wp2
                            go_roundw
                            case rel => exact ⟨k2 + 1, by omega, by go_num, hid (HB58.out.trans (HB9.out.mono hz8))⟩
                            case measure => simp [intOf]; omega
                    · go_wp2_with fail
                      refine (CA _ hbel6).out.mono ?_
                      rintro e w6 ⟨rfl, b6⟩
                      have hb6 := hbel6.trans (b6.mono hbel6.size)
                      clear CA b6
                      go_wp2
                      go_ret
                      exact ⟨rfl, hb6⟩
  · skip
    clear C1 CO q0 q1 q2 q3 q4
    go_wp2_with fail
    refine (CA _ hbel).out.mono ?_
    rintro e w6 ⟨rfl, b6⟩
    have hb6 := hbel.trans (b6.mono hbel.size)
    clear CA b6
    go_wp2
    go_ret
    exact ⟨rfl, hb6⟩
end Go.Proofs.YtgeapgbebbapmaaDoor
