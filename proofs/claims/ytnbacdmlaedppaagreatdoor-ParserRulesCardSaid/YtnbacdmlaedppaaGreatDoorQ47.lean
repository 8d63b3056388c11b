/-
  PARTS of a claim, merged by segs.py: LAny, PgV.
-/
import Derived.Test.YtnbacdmlaedppaaGreatDoorQ36
import Derived.Test.YtnbacdmlaedppaaGreatDoorQ05
import Derived.Test.YtnbacdmlaedppaaGreatDoorQ37
namespace Go.Proofs.YtnbacdmlaedppaaGreatDoor

/-! ### LAny -/
section
open Go.RowKit

set_option maxRecDepth 100000 in
theorem lex_scan_any (s : ByteArray) (w : World) (hE : EnvL w) {x : List Tok × Int × Int} (hx : scanL s.data.toList = x) :
    Calls Tryz.prog 17 #[.string s] w (RetS w x) := by
  by_cases h : s.size ≤ 100000
  · exact lex_scan s w hE h hx
  · have hll : s.data.toList.length = s.size := by simp
    have hbig : 65536 < s.size := by omega
    unfold scanL at hx
    rw [hll, if_pos hbig] at hx
    subst hx
    clear hE hll h
    go_enter Tryz.func17, Tryz.ntmps17
    go_wp2
    go_ret3
    exact ⟨none, 0, rfl, fun h => absurd h (by simp), by simp, Below.refl _ _⟩

theorem TokAt.flat {w : World} {b o : Nat} {l : List Tok} (h : TokAt w (some ⟨b, o, none⟩) l) : ∀ (j : Nat) (u : Value), (flatT l)[j]? = some u → w.cell? ⟨b, o + j, none⟩ = some u := by
  intro j u hj
  have hjl : j < (flatT l).length := (List.getElem?_eq_some_iff.1 hj).1
  rw [flatT_length] at hjl
  obtain ⟨i, r, hi, hr, rfl⟩ : ∃ i r, i < l.length ∧ r < 6 ∧ j = i * 6 + r := ⟨j / 6, j % 6, by omega, by omega, by omega⟩
  obtain ⟨b', o', e, hc⟩ := h (by omega)
  injection e with e
  injection e with e1 e2
  subst e1 e2
  obtain ⟨d0, d1, d2, d3, d4, d5⟩ := hc i hi
  obtain ⟨e0, e1, e2, e3, e4, e5⟩ := flatT_get l i hi
  rw [← Nat.add_assoc]
  match r, hr with
  | 0, _ => rw [Nat.add_zero] at *; rw [d0, ← e0]; exact hj
  | 1, _ => rw [d1, ← e1]; exact hj
  | 2, _ => rw [d2, ← e2]; exact hj
  | 3, _ => rw [d3, ← e3]; exact hj
  | 4, _ => rw [d4, ← e4]; exact hj
  | 5, _ => rw [d5, ← e5]; exact hj
theorem TokAt.at {w : World} {A : Option Addr} {l : List Tok} (h : TokAt w A l) (hp : 0 < l.length) : ∃ b o, A = some ⟨b, o, none⟩ := by
  obtain ⟨b, o, e, _⟩ := h hp
  exact ⟨b, o, e⟩
theorem TokAt.cells {w : World} {b o : Nat} {l : List Tok} (h : TokAt w (some ⟨b, o, none⟩) l) {k : Nat} (hk : k < l.length) {x : Tok} (hx : l[k] = x) :
    w.cell? ⟨b, o + k * 6, none⟩ = some (.int .i64 x.k) ∧ w.cell? ⟨b, o + k * 6 + 1, none⟩ = some (.string ⟨x.t.toArray⟩) ∧ w.cell? ⟨b, o + k * 6 + 2, none⟩ = some (.int .i64 x.v.k) ∧ w.cell? ⟨b, o + k * 6 + 3, none⟩ = some (.int .i64 x.v.n) ∧ w.cell? ⟨b, o + k * 6 + 4, none⟩ = some (.string x.v.s) ∧ w.cell? ⟨b, o + k * 6 + 5, none⟩ = some (.int .i64 x.a) := by
  obtain ⟨b', o', e, hc⟩ := h (by omega)
  injection e with e
  injection e with e1 e2
  subst e1 e2 hx
  exact hc k hk
end

/-! ### PgV -/
section
open Go.RowKit

/-- A rule in memory. -/
structure RuleIn (w : World) (r : Rul) (T T' : Option Addr) (c c' : Nat) : Prop where
  a : AtmsAt w T r.atoms
  d : CndsAt w T' r.conds
  la : r.atoms.length ≤ c
  ld : r.conds.length ≤ c'
  ma : r.atoms.length ≤ 9223372036854775807
  md : r.conds.length ≤ 9223372036854775807
theorem RuleIn.below {w w' : World} {r : Rul} {T T' : Option Addr} {c c' : Nat} (h : RuleIn w r T T' c c') (hb : Below w.heap.size w w') : RuleIn w' r T T' c c' := ⟨h.a.below hb, h.d.below hb, h.la, h.ld, h.ma, h.md⟩
theorem own_rul {w : World} {B : Nat} {T T' : Option Addr} {c c' : Nat} {r : Rul} (h : OwnRl w B (.slice T r.atoms.length c) (.slice T' r.conds.length c') r) (hs : r.some) : RuleIn w r T T' c c' := by
  obtain ⟨A1, c1, e1, h1, l1⟩ := ren_atms h.1 (fun a ha => by have := hs.t a ha; omega)
  obtain ⟨A2, c2, e2, h2, l2⟩ := ren_cnds h.2
  injection e1 with e1 _ e1'
  injection e2 with e2 _ e2'
  subst e1 e1' e2 e2'
  have := hs.a; have := hs.c
  exact ⟨h1, h2, l1, l2, by omega, by omega⟩
/-- The query of one rule. -/
theorem rul_qry {w : World} {r : Rul} {T T' : Option Addr} {c c' g : Nat} (h : RuleIn w r T T' c c') (hg : w.heap[g]? = some (.cells #[.slice T r.atoms.length c, .slice T' r.conds.length c'] 42)) : QryIn w (rulQ r) none (some ⟨g, 0, none⟩) none 0 1 0 := by
  refine ⟨fun h => absurd h (Nat.lt_irrefl 0), fun _ => ⟨g, 0, rfl, fun i hi => ?_⟩, fun h => absurd h (Nat.lt_irrefl 0), Nat.le_refl _, Nat.le_refl _, Nat.le_refl _, (by show 0 ≤ 9223372036854775807; decide), (by show 1 ≤ 9223372036854775807; decide), (by show 0 ≤ 9223372036854775807; decide)⟩
  have : i = 0 := by simpa [rulQ] using hi
  subst this
  exact ⟨T, c, T', c', box_cell hg 0, box_cell hg 1, h.a, h.d, h.la, h.ld, h.ma, h.md⟩
theorem OwnRl.far {w w' : World} {B t : Nat} {ua uc : Value} {r : Rul} (h : OwnRl w B ua uc r) (hg : w.grownBy w' (some t)) (ht : t < B) : OwnRl w' B ua uc r := ⟨h.1.far hg ht, ren_far h.2 hg ht⟩
theorem R0_in (w : World) : RuleIn w R0 none none 0 0 := ⟨fun h => absurd h (by decide), fun h => absurd h (by decide), by decide, by decide, by decide, by decide⟩
theorem R0_wf : R0.wf := ⟨fun h hh => (by cases hh), fun h hh => (by cases hh)⟩
theorem rulQ_wf {r : Rul} (h : r.wf) : (rulQ r).wf := by
  refine ⟨fun h hh => (by cases hh), ⟨by show (-9223372036854775808 : Int) ≤ 0; decide, by show (0 : Int) ≤ 9223372036854775807; decide⟩, by show 0 ≤ 9223372036854775807; decide, fun x hx => ?_, fun h hh => (by cases hh)⟩
  have e : x = r := by simpa [rulQ] using hx
  rw [e]
  exact h
/-- A call that returns a rule, an offset and an error's number. -/
def RetPr (w : World) (x : Rul × Int × Int) (e : Ending) (w' : World) : Prop :=
  ∃ T T' c c', e = .returned (.tuple #[.agg #[.slice T x.1.atoms.length c, .slice T' x.1.conds.length c'], .int .i64 x.2.1, .int .i64 x.2.2]) ∧ RuleIn w' x.1 T T' c c' ∧ x.1.wf ∧ Below w.heap.size w w'
theorem retPr_zero {w w' : World} {a e : Int} (h : Below w.heap.size w w') : RetPr w (R0, a, e) (.returned (.tuple #[.agg #[.slice none 0 0, .slice none 0 0], .int .i64 a, .int .i64 e])) w' :=
  ⟨none, none, 0, 0, rfl, R0_in w', R0_wf, h⟩
/-- The same as rows of the call's own. -/
def RetPo (w : World) (x : Rul × Int × Int) (e : Ending) (w' : World) : Prop :=
  ∃ T T' c c', e = .returned (.tuple #[.agg #[.slice T x.1.atoms.length c, .slice T' x.1.conds.length c'], .int .i64 x.2.1, .int .i64 x.2.2]) ∧ OwnRl w' w.heap.size (.slice T x.1.atoms.length c) (.slice T' x.1.conds.length c') x.1 ∧ x.1.some ∧ x.1.wf ∧ Below w.heap.size w w'
theorem R0_some : R0.some := ⟨by decide, by decide, fun a ha => by cases ha⟩
theorem retPo_zero {w w' : World} {a e : Int} (h : Below w.heap.size w w') : RetPo w (R0, a, e) (.returned (.tuple #[.agg #[.slice none 0 0, .slice none 0 0], .int .i64 a, .int .i64 e])) w' :=
  ⟨none, none, 0, 0, rfl, ⟨OwnAts.nil, World.ownsRow_nil _ _ _ _⟩, R0_some, R0_wf, h⟩
theorem RetPo.plain {w w' : World} {x : Rul × Int × Int} {e : Ending} (h : RetPo w x e w') : RetPr w x e w' :=
  let ⟨T, T', c, c', h1, h2, h3, h4, h5⟩ := h; ⟨T, T', c, c', h1, own_rul h2 h3, h4, h5⟩
abbrev rulZ : Array Value := #[.slice none 0 0, .slice none 0 0]

set_option maxRecDepth 100000 in
set_option maxHeartbeats 4000000 in
theorem prs_rule_own (s : ByteArray) (w : World) (hE : EnvL w) {t : List Tok × Int × Int} (ht : scanL s.data.toList = t) {x : Rul × Int × Int} (hx : parseR t = x) :
    Calls Tryz.prog 14 #[.string s] w (RetPo w x) := by
  obtain ⟨L, ta, te⟩ := t
  have k0 := below_one w (.cells rulZ 42)
  have hz := heap_alloc_new w (.cells rulZ 42)
  have HSc := hid (lex_scan_any s _ (hE.below k0) ht)
  have hlen : s.data.toList.length = s.size := by simp
  by_cases he : te = 0
  · subst he
    obtain ⟨hsc, hta, hs⟩ := scanL_ok ht
    rw [hlen] at hs
    have hEn := hsc.ended
    have hfew := hsc.head
    have hTk := hsc.tkOk (by omega)
    subst hta
    obtain ⟨o, ho⟩ : ∃ o, ruleG (tkL L) L.length L.length 0 R0 = o := ⟨_, rfl⟩
    have hgram : gramR L = match fullS (tkL L) o with
      | .bad e => (R0, (tkL L e).a, 21)
      | .ok q _ => (q, 0, 0) := by unfold gramR; rw [ho]; rfl
    have HQu := hid (fun V bp bq c A (p : PW bp A c L 0 V) (hb : V.heap[bq]? = some (.cells #[.slice none 0 0, .slice none 0 0] 42)) (hpq : bp < bq) => prs_rule p hb hpq ho)
    have HOk := hid (fun q nx (e : o = .ok q nx) => (ruleS_ok hTk (ho.trans e) (RulOkN.nil L.length)))
    have HEn := hid hEn
    have hfew2 : L.length ≤ 70000 := by omega
    have HGr := hid hgram
    have HX := hid hx
    have F0 := fun t : Tok => tok_at t.k t.v.k t.v.n t.a ⟨t.t.toArray⟩ t.v.s
    have HTo := hid (fun V bp k c A (p : PW bp A c L k V) => prs_token p)
    clear ht hE hsc hEn hTk ho hgram hfew hx
    go_enter Tryz.func14, Tryz.ntmps14
    go_wp2_with fail
    refine HSc.out.mono ?_
    rintro e w1 ⟨A, c, rfl, hT, hc, b1⟩
    have k1 := k0.trans (b1.mono k0.size)
    have hz1 := res_keep hz b1 (by simp)
    have hs1 : w.heap.size + 1 ≤ w1.heap.size := by have := b1.size; simp at this; omega
    obtain ⟨w2, hw2⟩ : ∃ w2, (w1.alloc (.cells #[.slice A L.length c, .int .i64 0] 71)).alloc (.cells rulZ 42) = w2 := ⟨_, rfl⟩
    have k12 : Below w1.heap.size w1 w2 := by rw [← hw2]; exact ((Below.refl _ _).alloc (Nat.le_refl _) _).alloc (by simp) _
    have hs2 : w2.heap.size = w1.heap.size + 1 + 1 := by rw [← hw2]; simp
    have hbp : w2.heap[w1.heap.size]? = some (prsO A L.length c 0) := by rw [← hw2, Below.heap_alloc _ _ _ (by simp)]; exact heap_alloc_new w1 _
    have hbq : w2.heap[w1.heap.size + 1]? = some (.cells rulZ 42) := by rw [← hw2]; have := heap_alloc_new (w1.alloc (.cells #[.slice A L.length c, .int .i64 0] 71)) (.cells rulZ 42); rwa [World.size_alloc] at this
    have hap : ∀ ad, A = some ad → ad.block < w1.heap.size := fun ad e => by
      obtain ⟨b, o', e2, hcl⟩ := hT HEn.out.pos
      rw [e] at e2
      injection e2 with e2
      subst e2
      exact cell_lt (hcl 0 HEn.out.pos).1
    have P2 := hid (show PW w1.heap.size A c L 0 w2 from ⟨hbp, hT.below k12, HEn.out, hfew2, hap, HEn.out.pos⟩)
    have HQ2 := hid (HQu.out w2 w1.heap.size (w1.heap.size + 1) c A P2.out hbq (by omega))
    have HZ2 := hid ((k12.block _ (by omega)).trans hz1)
    have K2 := hid (k1.trans (k12.mono (by omega)))
    have K2s : w.heap.size ≤ w2.heap.size := K2.out.size
    have HW2 := hid hw2
    clear hT hc b1 k1 hz1 hz k0 hw2 k12 hbp hbq hap HSc HQu P2
    cases o with
    | bad b =>
      have hg : gramR L = (R0, (tkL L b).a, 21) := HGr.out
      have hx2 : x = (R0, (tkL L b).a, 21) := by rw [← HX.out]; simp [parseR, hg]
      subst hx2
      clear HX HGr hg
      go_wp2_with (first | rw [HW2.out] | fail)
      refine HQ2.out.mono ?_
      rintro e w3 ⟨⟨rfl, p3, _⟩, c3⟩
      have hs3 := c3.size
      have HZ3 := hid ((c3.block _ (by omega) (by simp; omega)).trans HZ2.out)
      have K3 := hid (K2.out.trans (c3.below (B := w.heap.size) (fun s hs => by simp at hs; omega) (by omega)))
      have P3 := hid p3
      clear c3 p3 HQ2 K2 HZ2
      have HT3 := hid (HTo.out w3 w1.heap.size b c A P3.out)
      generalize tkL L b = t at *
      have F1 := F0 t
      clear F0
      go_wp2_with fail
      refine HT3.out.mono ?_
      rintro e w4 ⟨rfl, b4⟩
      have hz4 := (b4.block _ (by have := HZ3.out; have := lt_of_block this; omega)).trans HZ3.out
      have K4 := hid (K3.out.trans (b4.mono K3.out.size))
      clear b4 HT3
      go_wp2_with (refine wpList_store_res rfl rfl rfl rfl hz4 infoRlP rfl rfl ?_; intro w9 hz9 hb9)
      refine bodyPost_ret (by simp [results, Tryz.results14, go_sem, cell_res hz9]; rfl) rfl ?_
      exact retPo_zero (K4.out.trans hb9)
    | ok q nx =>
      obtain ⟨z, hz⟩ : ∃ z, ((tkL L nx).k == 0) = z := ⟨_, rfl⟩
      have HEd := hid (fun V (p : PW w1.heap.size A c L nx V) => prs_end p hz)
      go_wp2_with (first | rw [HW2.out] | fail)
      refine HQ2.out.mono ?_
      rintro e w3' ⟨⟨rfl, p3, T, cT, T', cT', b3, r3⟩, c3⟩
      have hs3 := c3.size
      have HE3 := hid (HEd.out w3' p3)
      have HZ3' := hid ((c3.block _ (by omega) (by simp; omega)).trans HZ2.out)
      have K3' := hid (K2.out.trans (c3.below (B := w.heap.size) (fun s hs => by simp at hs; omega) (by omega)))
      have HF3 := hid (And.intro p3 (And.intro b3 r3))
      clear c3 p3 b3 r3 HQ2 K2 HZ2 HEd
      go_wp2_with fail
      refine HE3.out.mono ?_
      rintro e w3 ⟨rfl, be⟩
      have HZ3 := hid ((be.block _ (by omega)).trans HZ3'.out)
      have K3 := hid (K3'.out.trans (be.mono K3'.out.size))
      have hse := be.size
      have HF := hid (show PW w1.heap.size A c L nx w3 ∧ w3.heap[w1.heap.size + 1]? = some (.cells #[.slice T q.atoms.length cT, .slice T' q.conds.length cT'] 42) ∧ OwnRl w3 w2.heap.size (.slice T q.atoms.length cT) (.slice T' q.conds.length cT') q from
        ⟨HF3.out.1.below be, (be.block _ (by omega)).trans HF3.out.2.1, HF3.out.2.2.below be⟩)
      clear be HE3 HZ3' K3' HF3
      cases z with
      | false =>
        have hk : (tkL L nx).k ≠ 0 := by simpa using hz
        have hg : gramR L = (R0, (tkL L nx).a, 21) := by rw [HGr.out]; unfold fullS; simp only; rw [if_neg hk]
        have hx2 : x = (R0, (tkL L nx).a, 21) := by rw [← HX.out]; simp [parseR, hg]
        subst hx2
        clear HX HGr hg hz hk
        have HT3 := hid (HTo.out w3 w1.heap.size nx c A HF.out.1)
        generalize tkL L nx = t at *
        have F1 := F0 t
        clear F0
        go_wp2_with fail
        refine HT3.out.mono ?_
        rintro e w4 ⟨rfl, b4⟩
        have hz4 := (b4.block _ (by have := HZ3.out; have := lt_of_block this; omega)).trans HZ3.out
        have K4 := hid (K3.out.trans (b4.mono K3.out.size))
        clear b4 HT3
        go_wp2_with (refine wpList_store_res rfl rfl rfl rfl hz4 infoRlP rfl rfl ?_; intro w9 hz9 hb9)
        refine bodyPost_ret (by simp [results, Tryz.results14, go_sem, cell_res hz9]; rfl) rfl ?_
        exact retPo_zero (K4.out.trans hb9)
      | true =>
        have hk : (tkL L nx).k = 0 := by simpa using hz
        have hg : gramR L = (q, 0, 0) := by rw [HGr.out]; unfold fullS; simp only; rw [if_pos hk]
        have hok := HOk.out q nx rfl
        have hsm : q.some := ⟨Nat.le_trans hok.a (by omega), Nat.le_trans hok.c (by omega), fun a ha => Nat.le_trans (hok.t a ha) (by omega)⟩
        obtain ⟨y, hy⟩ : ∃ y, checkQ (rulQ q) = y := ⟨_, rfl⟩
        have hx2 : x = if y = 0 then (q, 0, 0) else (R0, 0, y) := by rw [← HX.out, ← hy]; simp [parseR, hg]
        have HX2 := hid hx2
        have kc := below_one w3 (.cells #[.slice T q.atoms.length cT, .slice T' q.conds.length cT'] 42)
        have hin := (own_rul HF.out.2.2 hsm).below kc
        have HSm := hid hsm
        have HCk := hid (ast_check (rulQ q) none (some ⟨w3.heap.size, 0, none⟩) none 0 1 0 _ (rul_qry hin (heap_alloc_new w3 _)) (rulQ_wf hok.wf) hy)
        have HWf := hid hok.wf
        have HOw := hid (HF.out.2.2.below kc)
        have d0 := box_cell HF.out.2.1 0
        have d1 := box_cell HF.out.2.1 1
        have HKc := hid kc
        have hlb := lt_of_block HF.out.2.1
        have HBx := hid ((kc.block _ hlb).trans HF.out.2.1)
        clear HX HGr hg hz hk hok hin hy HOk F0 hx2 hsm kc
        go_wp2_with fail
        refine HCk.out.mono ?_
        rintro e w4 ⟨rfl, b4⟩
        have kk := HKc.out.trans (b4.mono HKc.out.size)
        have hz4 := (kk.block _ (by omega)).trans HZ3.out
        have K4 := hid (K3.out.trans (kk.mono K3.out.size))
        have HOw4 := hid (HOw.out.below b4)
        have hb4 := (b4.block _ (by have := HKc.out.size; omega)).trans HBx.out
        have d0 := box_cell hb4 0
        have d1 := box_cell hb4 1
        have hl4 := lt_of_block hb4
        clear HCk b4 HF HOw HKc kk hb4
        have hx2 := HX2.out
        clear HX2
        by_cases h0 : y = 0
        · have hb0 : (y != 0) = false := by simpa using h0
          subst h0
          rw [if_pos rfl] at hx2
          subst hx2
          go_wp2_with (refine wpList_stored2 rfl rfl rfl rfl hz4 infoRlP rfl rfl ?_; intro w9 hz9 hg9)
          refine bodyPost_ret (by simp [results, Tryz.results14, go_sem, cell_res hz9]; rfl) rfl ?_
          exact ⟨T, T', cT, cT', rfl, (HOw4.out.far hg9 (by omega)).mono K2s, HSm.out, HWf.out, K4.out.trans (grown_below' hg9 (Nat.le_refl _) K4.out.size)⟩
        · have hb0 : (y != 0) = true := by simpa using h0
          rw [if_neg h0] at hx2
          subst hx2
          clear h0
          go_wp2_with (refine wpList_store_res rfl rfl rfl rfl hz4 infoRlP rfl rfl ?_; intro w9 hz9 hb9)
          refine bodyPost_ret (by simp [results, Tryz.results14, go_sem, cell_res hz9]; rfl) rfl ?_
          exact retPo_zero (K4.out.trans hb9)
  · have hx2 : x = (R0, ta, te) := by rw [← hx]; simp [parseR, he]
    subst hx2
    have hb0 : (te != 0) = true := by simpa using he
    clear ht hE hx he
    go_enter Tryz.func14, Tryz.ntmps14
    go_wp2_with fail
    refine HSc.out.mono ?_
    rintro e w1 ⟨A, c, rfl, hT, hc, b1⟩
    have hz1 := res_keep hz b1 (by simp)
    have K1 := hid (k0.trans (b1.mono k0.size))
    clear hT hc b1 hz k0 HSc
    go_wp2_with (refine wpList_store_res rfl rfl rfl rfl hz1 infoRlP rfl rfl ?_; intro w9 hz9 hb9)
    refine bodyPost_ret (by simp [results, Tryz.results14, go_sem, cell_res hz9]; rfl) rfl ?_
    exact retPo_zero (K1.out.trans hb9)
theorem prs_ruleF (s : ByteArray) (w : World) (hE : EnvL w) (_hs : s.size ≤ 65536) {t : List Tok × Int × Int} (ht : scanL s.data.toList = t) {x : Rul × Int × Int} (hx : parseR t = x) :
    Calls Tryz.prog 14 #[.string s] w (RetPr w x) := (prs_rule_own s w hE ht hx).mono fun _ _ h => h.plain
end
end Go.Proofs.YtnbacdmlaedppaaGreatDoor
