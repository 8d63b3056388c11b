/-
  PARTS of a claim, merged by segs.py: PgZ, PgE, Lr1.
-/
import Derived.Test.YtnbacdmlaedppaaGreatDoorQ30
import Derived.Test.YtnbacdmlaedppaaGreatDoorQ31
import Derived.Test.YtnbacdmlaedppaaGreatDoorQ36
import Derived.Test.YtnbacdmlaedppaaGreatDoorQ04
namespace Go.Proofs.YtnbacdmlaedppaaGreatDoor

/-! ### PgZ -/
section
open Go.RowKit

theorem own_qry {w : World} {B : Nat} {H R O : Option Addr} {ch cr co : Nat} {q : Qry} (h : OwnQy w B H ch R cr O co q) (hs : q.some) : QryIn w q H R O ch cr co := by
  obtain ⟨A1, c1, e1, h1, l1⟩ := own_names h.1
  obtain ⟨A2, c2, e2, h2, l2⟩ := ren_ruls h.2.1 hs.s
  obtain ⟨A3, c3, e3, h3, l3⟩ := ren_keys h.2.2
  injection e1 with e1 _ e1'
  injection e2 with e2 _ e2'
  injection e3 with e3 _ e3'
  subst e1 e1' e2 e2' e3 e3'
  have := hs.h; have := hs.r; have := hs.o
  exact ⟨h1, h2, h3, l1, l2, l3, by omega, by omega, by omega⟩
theorem QryOkN.some {n : Nat} {q : Qry} (h : QryOkN n q) (hn : n ≤ 100000) : q.some :=
  ⟨Nat.le_trans h.h hn, Nat.le_trans h.r hn, Nat.le_trans h.o hn, fun r hr => ⟨Nat.le_trans (h.s r hr).a hn, Nat.le_trans (h.s r hr).c hn, fun a ha => Nat.le_trans ((h.s r hr).t a ha) hn⟩⟩
theorem Q0_in (w : World) : QryIn w Q0 none none none 0 0 0 := ⟨fun h => absurd h (by decide), fun h => absurd h (by decide), fun h => absurd h (by decide), by decide, by decide, by decide, by decide, by decide, by decide⟩
theorem Q0_wf : Q0.wf := ⟨fun h hh => (by cases hh), ⟨by decide, by decide⟩, by decide, fun h hh => (by cases hh), fun h hh => (by cases hh)⟩
/-- A call that returns a query, an offset and an error's number. -/
def RetPa (w : World) (x : Qry × Int × Int) (e : Ending) (w' : World) : Prop :=
  ∃ A R O ch cr co, e = .returned (.tuple #[qryV x.1 A R O ch cr co, .int .i64 x.2.1, .int .i64 x.2.2]) ∧ QryIn w' x.1 A R O ch cr co ∧ x.1.wf ∧ Below w.heap.size w w'
theorem retPa_zero {w w' : World} {a e : Int} (h : Below w.heap.size w w') : RetPa w (Q0, a, e) (.returned (.tuple #[.agg #[.slice none 0 0, .int .i64 0, .string ⟨#[]⟩, .slice none 0 0, .slice none 0 0], .int .i64 a, .int .i64 e])) w' :=
  ⟨none, none, none, 0, 0, 0, rfl, Q0_in w', Q0_wf, h⟩
/-- The same as rows of the call's own. -/
def RetPk (w : World) (x : Qry × Int × Int) (e : Ending) (w' : World) : Prop :=
  ∃ A R O ch cr co, e = .returned (.tuple #[qryV x.1 A R O ch cr co, .int .i64 x.2.1, .int .i64 x.2.2]) ∧ OwnQy w' w.heap.size A ch R cr O co x.1 ∧ x.1.some ∧ x.1.wf ∧ Below w.heap.size w w'
theorem RetPk.plain {w w' : World} {x : Qry × Int × Int} {e : Ending} (h : RetPk w x e w') : RetPa w x e w' :=
  let ⟨A, R, O, ch, cr, co, h1, h2, h5, h3, h4⟩ := h; ⟨A, R, O, ch, cr, co, h1, own_qry h2 h5, h3, h4⟩
theorem Q0_some : Q0.some := ⟨by decide, by decide, by decide, fun r hr => by cases hr⟩
theorem OwnQy.chg {w w' : World} {S : List Nat} {B : Nat} {H R O : Option Addr} {ch cr co : Nat} {q : Qry} (h : OwnQy w B H ch R cr O co q) (hc : Chg S w w') (hS : ∀ s ∈ S, s < B) : OwnQy w' B H ch R cr O co q :=
  ⟨hc.ownS h.1 hS, h.2.1.chg hc hS, hc.ownS h.2.2 hS⟩
theorem retPk_zero {w w' : World} {a e : Int} (h : Below w.heap.size w w') : RetPk w (Q0, a, e) (.returned (.tuple #[.agg #[.slice none 0 0, .int .i64 0, .string ⟨#[]⟩, .slice none 0 0, .slice none 0 0], .int .i64 a, .int .i64 e])) w' :=
  ⟨none, none, none, 0, 0, 0, rfl, ⟨World.ownsRow_nil _ _ _ _, OwnRls.nil, World.ownsRow_nil _ _ _ _⟩, Q0_some, Q0_wf, h⟩
abbrev qryZ : Array Value := #[.slice none 0 0, .int .i64 0, .string ⟨#[]⟩, .slice none 0 0, .slice none 0 0]

set_option maxRecDepth 100000 in
set_option maxHeartbeats 4000000 in
theorem prs_parse_far (s : ByteArray) (w : World) (hE : EnvL w) (hs : s.size ≤ 65536) {t : List Tok × Int × Int} (ht : scanL s.data.toList = t) {x : Qry × Int × Int} (hx : parseP t = x) :
    Calls Tryz.prog 10 #[.string s] w (RetPk w x) := by
  obtain ⟨L, ta, te⟩ := t
  have k0 := below_one w (.cells qryZ 27)
  have hz := heap_alloc_new w (.cells qryZ 27)
  have HSc := hid (lex_scan s _ (hE.below k0) (by omega) ht)
  have hlen : s.data.toList.length = s.size := by simp
  by_cases he : te = 0
  · subst he
    obtain ⟨hsc, hta, _⟩ := scanL_ok ht
    have hEn := hsc.ended
    have hfew := hsc.head
    have hTk := hsc.tkOk (by omega)
    subst hta
    obtain ⟨o, ho⟩ : ∃ o, queryS (tkL L) L.length = o := ⟨_, rfl⟩
    have hgram : gramQ L = match fullS (tkL L) o with
      | .bad e => (Q0, (tkL L e).a, 21)
      | .ok q _ => (q, 0, 0) := by unfold gramQ; rw [ho]; rfl
    have HQu := hid (fun V bp bq c A (p : PW bp A c L 0 V) (hb : V.heap[bq]? = some (.cells (qryA (.slice none 0 0) 0 ⟨#[]⟩ (.slice none 0 0) (.slice none 0 0)) 27)) (hpq : bp < bq) => prs_query p hb hpq ho)
    have HOk := hid (fun q nx (e : o = .ok q nx) => queryS_ok hTk (ho.trans e))
    have HEn := hid hEn
    have hfew2 : L.length ≤ 70000 := by omega
    have HGr := hid hgram
    have HX := hid hx
    have F0 := fun t : Tok => tok_at t.k t.v.k t.v.n t.a ⟨t.t.toArray⟩ t.v.s
    have HTo := hid (fun V bp k c A (p : PW bp A c L k V) => prs_token p)
    clear ht hE hsc hEn hTk ho hgram hfew hx
    go_enter Tryz.func10, Tryz.ntmps10
    go_wp2_with fail
    refine HSc.out.mono ?_
    rintro e w1 ⟨A, c, rfl, hT, hc, b1⟩
    have k1 := k0.trans (b1.mono k0.size)
    have hz1 := res_keep hz b1 (by simp)
    have hs1 : w.heap.size + 1 ≤ w1.heap.size := by have := b1.size; simp at this; omega
    obtain ⟨w2, hw2⟩ : ∃ w2, (w1.alloc (.cells #[.slice A L.length c, .int .i64 0] 71)).alloc (.cells qryZ 27) = w2 := ⟨_, rfl⟩
    have k12 : Below w1.heap.size w1 w2 := by rw [← hw2]; exact ((Below.refl _ _).alloc (Nat.le_refl _) _).alloc (by simp) _
    have hs2 : w2.heap.size = w1.heap.size + 1 + 1 := by rw [← hw2]; simp
    have hbp : w2.heap[w1.heap.size]? = some (prsO A L.length c 0) := by rw [← hw2, Below.heap_alloc _ _ _ (by simp)]; exact heap_alloc_new w1 _
    have hbq : w2.heap[w1.heap.size + 1]? = some (.cells qryZ 27) := by rw [← hw2]; have := heap_alloc_new (w1.alloc (.cells #[.slice A L.length c, .int .i64 0] 71)) (.cells qryZ 27); rwa [World.size_alloc] at this
    have hap : ∀ ad, A = some ad → ad.block < w1.heap.size := fun ad e => by
      obtain ⟨b, o', e2, hcl⟩ := hT HEn.out.pos
      rw [e] at e2
      injection e2 with e2
      subst e2
      exact cell_lt (hcl 0 HEn.out.pos).1
    have P2 := hid (show PW w1.heap.size A c L 0 w2 from ⟨hbp, hT.below k12, HEn.out, hfew2, hap, HEn.out.pos⟩)
    have HQ2 := hid (HQu.out w2 w1.heap.size (w1.heap.size + 1) c A P2.out hbq (by omega))
    have HZ2 := hid ((k12.block _ (by omega)).trans hz1)
    have K2 := hid (k1.trans (k12.mono (by omega)))
    have K2s : w.heap.size ≤ w2.heap.size := K2.out.size
    have HW2 := hid hw2
    clear hT hc b1 k1 hz1 hz k0 hw2 k12 hbp hbq hap HSc HQu P2
    cases o with
    | bad b =>
      have hg : gramQ L = (Q0, (tkL L b).a, 21) := HGr.out
      have hx2 : x = (Q0, (tkL L b).a, 21) := by rw [← HX.out]; simp [parseP, hg]
      subst hx2
      clear HX HGr hg
      go_wp2_with (first | rw [HW2.out] | fail)
      refine HQ2.out.mono ?_
      rintro e w3 ⟨⟨rfl, p3⟩, c3⟩
      have hs3 := c3.size
      have HZ3 := hid ((c3.block _ (by omega) (by simp; omega)).trans HZ2.out)
      have K3 := hid (K2.out.trans (c3.below (B := w.heap.size) (fun s hs => by simp at hs; omega) (by omega)))
      have P3 := hid p3
      clear c3 p3 HQ2 K2 HZ2
      have HT3 := hid (HTo.out w3 w1.heap.size b c A P3.out)
      generalize tkL L b = t at *
      have F1 := F0 t
      clear F0
      go_wp2_with fail
      refine HT3.out.mono ?_
      rintro e w4 ⟨rfl, b4⟩
      have hz4 := (b4.block _ (by have := HZ3.out; have := lt_of_block this; omega)).trans HZ3.out
      have K4 := hid (K3.out.trans (b4.mono K3.out.size))
      clear b4 HT3
      go_wp2_with (refine wpList_store_res rfl rfl rfl rfl hz4 infoQyP rfl rfl ?_; intro w9 hz9 hb9)
      refine bodyPost_ret (by simp [results, Tryz.results10, go_sem, cell_res hz9]; rfl) rfl ?_
      exact retPk_zero (K4.out.trans hb9)
    | ok q nx =>
      obtain ⟨z, hz⟩ : ∃ z, ((tkL L nx).k == 0) = z := ⟨_, rfl⟩
      have HEd := hid (fun V (p : PW w1.heap.size A c L nx V) => prs_end p hz)
      go_wp2_with (first | rw [HW2.out] | fail)
      refine HQ2.out.mono ?_
      rintro e w3' ⟨⟨rfl, p3, H, ch, R, cr, O, co, b3, r3⟩, c3⟩
      have hs3 := c3.size
      have HE3 := hid (HEd.out w3' p3)
      have HZ3' := hid ((c3.block _ (by omega) (by simp; omega)).trans HZ2.out)
      have K3' := hid (K2.out.trans (c3.below (B := w.heap.size) (fun s hs => by simp at hs; omega) (by omega)))
      have HF3 := hid (And.intro p3 (And.intro b3 r3))
      clear c3 p3 b3 r3 HQ2 K2 HZ2 HEd
      go_wp2_with fail
      refine HE3.out.mono ?_
      rintro e w3 ⟨rfl, be⟩
      have HZ3 := hid ((be.block _ (by omega)).trans HZ3'.out)
      have K3 := hid (K3'.out.trans (be.mono K3'.out.size))
      have hse := be.size
      have HF := hid (show PW w1.heap.size A c L nx w3 ∧ w3.heap[w1.heap.size + 1]? = some (.cells (qyC H q.head.length ch q.agg ⟨q.aggVar.toArray⟩ R q.rules.length cr O q.order.length co) 27) ∧ OwnQy w3 w2.heap.size H ch R cr O co q from
        ⟨HF3.out.1.below be, (be.block _ (by omega)).trans HF3.out.2.1, HF3.out.2.2.below be⟩)
      clear be HE3 HZ3' K3' HF3
      cases z with
      | false =>
        have hk : (tkL L nx).k ≠ 0 := by simpa using hz
        have hg : gramQ L = (Q0, (tkL L nx).a, 21) := by rw [HGr.out]; unfold fullS; simp only; rw [if_neg hk]
        have hx2 : x = (Q0, (tkL L nx).a, 21) := by rw [← HX.out]; simp [parseP, hg]
        subst hx2
        clear HX HGr hg hz hk
        have HT3 := hid (HTo.out w3 w1.heap.size nx c A HF.out.1)
        generalize tkL L nx = t at *
        have F1 := F0 t
        clear F0
        go_wp2_with fail
        refine HT3.out.mono ?_
        rintro e w4 ⟨rfl, b4⟩
        have hz4 := (b4.block _ (by have := HZ3.out; have := lt_of_block this; omega)).trans HZ3.out
        have K4 := hid (K3.out.trans (b4.mono K3.out.size))
        clear b4 HT3
        go_wp2_with (refine wpList_store_res rfl rfl rfl rfl hz4 infoQyP rfl rfl ?_; intro w9 hz9 hb9)
        refine bodyPost_ret (by simp [results, Tryz.results10, go_sem, cell_res hz9]; rfl) rfl ?_
        exact retPk_zero (K4.out.trans hb9)
      | true =>
        have hk : (tkL L nx).k = 0 := by simpa using hz
        have hg : gramQ L = (q, 0, 0) := by rw [HGr.out]; unfold fullS; simp only; rw [if_pos hk]
        have hok := HOk.out q nx rfl
        obtain ⟨y, hy⟩ : ∃ y, checkQ q = y := ⟨_, rfl⟩
        have hx2 : x = if y = 0 then (q, 0, 0) else (Q0, 0, y) := by rw [← HX.out, ← hy]; simp [parseP, hg]
        have HX2 := hid hx2
        clear hx2
        have hin := own_qry HF.out.2.2 (hok.some (by omega))
        have HSm := hid (hok.some (by omega))
        have HOw := hid HF.out.2.2
        have HCk := hid (ast_check q H R O ch cr co w3 hin hok.wf hy)
        have HIn := hid hin
        have HWf := hid hok.wf
        have d0 := box_cell HF.out.2.1 0
        have d1 := box_cell HF.out.2.1 1
        have d2 := box_cell HF.out.2.1 2
        have d3 := box_cell HF.out.2.1 3
        have d4 := box_cell HF.out.2.1 4
        have hbx := HF.out.2.1
        have HBx := hid hbx
        clear HX HGr hg hz hk hok hin hy HOk hbx F0
        go_wp2_with fail
        refine HCk.out.mono ?_
        rintro e w4 ⟨rfl, b4⟩
        have hz4 := (b4.block _ (by omega)).trans HZ3.out
        have K4 := hid (K3.out.trans (b4.mono K3.out.size))
        have HOw4 := hid (HOw.out.below b4)
        have d0 := cell_keep b4 d0
        have d1 := cell_keep b4 d1
        have d2 := cell_keep b4 d2
        have d3 := cell_keep b4 d3
        have d4 := cell_keep b4 d4
        clear HCk b4 HIn HBx HF HOw
        have hx2 := HX2.out
        clear HX2
        by_cases h0 : y = 0
        · have hb0 : (y != 0) = false := by simpa using h0
          subst h0
          rw [if_pos rfl] at hx2
          subst hx2
          go_wp2_with (refine wpList_stored2 rfl rfl rfl rfl hz4 infoQyP rfl rfl ?_; intro w9 hz9 hg9)
          refine bodyPost_ret (by simp [results, Tryz.results10, go_sem, cell_res hz9]; rfl) rfl ?_
          exact ⟨H, R, O, ch, cr, co, rfl, (HOw4.out.far hg9 (by omega)).mono K2s, HSm.out, HWf.out, K4.out.trans (grown_below' hg9 (Nat.le_refl _) K4.out.size)⟩
        · have hb0 : (y != 0) = true := by simpa using h0
          rw [if_neg h0] at hx2
          subst hx2
          clear h0
          go_wp2_with (refine wpList_store_res rfl rfl rfl rfl hz4 infoQyP rfl rfl ?_; intro w9 hz9 hb9)
          refine bodyPost_ret (by simp [results, Tryz.results10, go_sem, cell_res hz9]; rfl) rfl ?_
          exact retPk_zero (K4.out.trans hb9)
  · have hx2 : x = (Q0, ta, te) := by rw [← hx]; simp [parseP, he]
    subst hx2
    have hb0 : (te != 0) = true := by simpa using he
    clear ht hE hx he
    go_enter Tryz.func10, Tryz.ntmps10
    go_wp2_with fail
    refine HSc.out.mono ?_
    rintro e w1 ⟨A, c, rfl, hT, hc, b1⟩
    have hz1 := res_keep hz b1 (by simp)
    have K1 := hid (k0.trans (b1.mono k0.size))
    clear hT hc b1 hz k0 HSc
    go_wp2_with (refine wpList_store_res rfl rfl rfl rfl hz1 infoQyP rfl rfl ?_; intro w9 hz9 hb9)
    refine bodyPost_ret (by simp [results, Tryz.results10, go_sem, cell_res hz9]; rfl) rfl ?_
    exact retPk_zero (K1.out.trans hb9)
theorem prs_parse (s : ByteArray) (w : World) (hE : EnvL w) (hs : s.size ≤ 65536) {t : List Tok × Int × Int} (ht : scanL s.data.toList = t) {x : Qry × Int × Int} (hx : parseP t = x) :
    Calls Tryz.prog 10 #[.string s] w (RetPa w x) := (prs_parse_far s w hE hs ht hx).mono fun _ _ h => h.plain
end

/-! ### PgE -/
section
open Go.RowKit

theorem aw1_parse : parseP (aw1T, 0, 0) = (⟨[[120], [121]], 0, [], [⟨[⟨false, [114], [⟨[120], V0⟩, ⟨[122], V0⟩]⟩, ⟨false, [115], [⟨[122], V0⟩, ⟨[121], V0⟩]⟩, ⟨true, [116], [⟨[120], V0⟩, ⟨[121], V0⟩]⟩], [⟨[122], 2, ⟨1, 5, ⟨#[]⟩⟩⟩]⟩], [⟨[121], true⟩, ⟨[120], false⟩]⟩, 0, 0) := by
  unfold parseP
  rw [if_pos rfl]
  simp only [aw1_gram]
  rw [if_pos trivial, if_pos (by kernel_rfl)]
theorem aw2_parse : parseP (aw2T, 0, 0) = (⟨[[120]], 2, [122], [⟨[⟨false, [114], [⟨[120], V0⟩, ⟨[122], V0⟩]⟩], []⟩], []⟩, 0, 0) := by
  unfold parseP
  rw [if_pos rfl]
  simp only [aw2_gram]
  rw [if_pos trivial, if_pos (by kernel_rfl)]
theorem aw3_parse : parseP (aw3T, 0, 0) = (Q0, 13, 21) := by
  unfold parseP
  rw [if_pos rfl]
  simp only [aw3_gram]
  rw [if_neg (by decide)]
theorem aw4_parse : parseP (aw4T, 0, 0) = (Q0, 9, 21) := by
  unfold parseP
  rw [if_pos rfl]
  simp only [aw4_gram]
  rw [if_neg (by decide)]
theorem one_rule {w : World} {R : Option Addr} {x : Rul} (h : RulsAt w R [x]) : ∃ b o T c T' c', R = some ⟨b, o, none⟩ ∧ w.cell? ⟨b, o, none⟩ = some (.slice T x.atoms.length c) ∧ w.cell? ⟨b, o + 1, none⟩ = some (.slice T' x.conds.length c') := by
  obtain ⟨b, o, e, hc⟩ := h (by simp)
  obtain ⟨T, c, T', c', h0, h1, _⟩ := hc 0 (by simp)
  exact ⟨b, o, T, c, T', c', e, by simpa using h0, by simpa using h1⟩
theorem aw1_call (W : World) (hE : EnvL W) : Calls Tryz.prog 10 #[.string aw1B] W fun e w' => ∃ A1 a1 b o b1 O1 d1 T c T' c', e = .returned (.tuple #[.agg #[.slice A1 2 a1, .int .i64 0, .string ⟨#[]⟩, .slice (some ⟨b, o, none⟩) 1 b1, .slice O1 2 d1], .int .i64 0, .int .i64 0]) ∧ w'.cell? ⟨b, o, none⟩ = some (.slice T 3 c) ∧ w'.cell? ⟨b, o + 1, none⟩ = some (.slice T' 1 c') ∧ Below W.heap.size W w' := by
  refine (prs_parse aw1B W hE (by decide) aw1_scan aw1_parse).mono ?_
  rintro e w' ⟨A, R, O, ch, cr, co, rfl, hi, _, k⟩
  obtain ⟨b, o, T, c, T', c', rfl, h0, h1⟩ := one_rule hi.rules
  exact ⟨A, ch, b, o, cr, O, co, T, c, T', c', rfl, h0, h1, k⟩
theorem aw2_call (W : World) (hE : EnvL W) : Calls Tryz.prog 10 #[.string aw2B] W fun e w' => ∃ A1 a1 R1 b1 O1 d1, e = .returned (.tuple #[.agg #[.slice A1 1 a1, .int .i64 2, .string ⟨#[122]⟩, .slice R1 1 b1, .slice O1 0 d1], .int .i64 0, .int .i64 0]) ∧ Below W.heap.size W w' := by
  refine (prs_parse aw2B W hE (by decide) aw2_scan aw2_parse).mono ?_
  rintro e w' ⟨A, R, O, ch, cr, co, rfl, _, _, k⟩
  exact ⟨A, ch, R, cr, O, co, rfl, k⟩
theorem aw3_call (W : World) (hE : EnvL W) : Calls Tryz.prog 10 #[.string aw3B] W fun e w' => ∃ A1 a1 R1 b1 O1 d1, e = .returned (.tuple #[.agg #[.slice A1 0 a1, .int .i64 0, .string ⟨#[]⟩, .slice R1 0 b1, .slice O1 0 d1], .int .i64 13, .int .i64 21]) ∧ Below W.heap.size W w' := by
  refine (prs_parse aw3B W hE (by decide) aw3_scan aw3_parse).mono ?_
  rintro e w' ⟨A, R, O, ch, cr, co, rfl, _, _, k⟩
  exact ⟨A, ch, R, cr, O, co, rfl, k⟩
theorem aw4_call (W : World) (hE : EnvL W) : Calls Tryz.prog 10 #[.string aw4B] W fun e w' => ∃ A1 a1 R1 b1 O1 d1, e = .returned (.tuple #[.agg #[.slice A1 0 a1, .int .i64 0, .string ⟨#[]⟩, .slice R1 0 b1, .slice O1 0 d1], .int .i64 9, .int .i64 21]) ∧ Below W.heap.size W w' := by
  refine (prs_parse aw4B W hE (by decide) aw4_scan aw4_parse).mono ?_
  rintro e w' ⟨A, R, O, ch, cr, co, rfl, _, _, k⟩
  exact ⟨A, ch, R, cr, O, co, rfl, k⟩
set_option maxRecDepth 100000 in
set_option maxHeartbeats 2000000 in
theorem awake20 (w : World) (hE : EnvL w) : Calls Tryz.prog 9 #[] w fun e w' => e = .returned (.bool true) ∧ Below w.heap.size w w' := by
  have H1 := fun W (h : Below w.heap.size w W) => hid (aw1_call W (hE.below h))
  have H2 := fun W (h : Below w.heap.size w W) => hid (aw2_call W (hE.below h))
  have H3 := fun W (h : Below w.heap.size w W) => hid (aw3_call W (hE.below h))
  have H4 := fun W (h : Below w.heap.size w W) => hid (aw4_call W (hE.below h))
  clear hE
  go_enter Tryz.func9, Tryz.ntmps9
  go_wp2_with fail
  refine (H1 _ (Below.refl _ _)).out.mono ?_
  rintro e w1 ⟨A1, a1, br, orr, b1, O1, d1, T, cT, T', cT', rfl, r0, r1, k1⟩
  have x1 := below_one w1 (.cells #[.slice A1 2 a1, .int .i64 0, .string ⟨#[]⟩, .slice (some ⟨br, orr, none⟩) 1 b1, .slice O1 2 d1] 27)
  have h1 := heap_alloc_new w1 (.cells #[.slice A1 2 a1, .int .i64 0, .string ⟨#[]⟩, .slice (some ⟨br, orr, none⟩) 1 b1, .slice O1 2 d1] 27)
  have l1 : w1.heap.size < (w1.alloc (.cells #[.slice A1 2 a1, .int .i64 0, .string ⟨#[]⟩, .slice (some ⟨br, orr, none⟩) 1 b1, .slice O1 2 d1] 27)).heap.size := by simp
  replace r0 := cell_keep x1 r0
  replace r1 := cell_keep x1 r1
  have K1 := hid (k1.trans (x1.mono k1.size))
  have HH1 := hid h1
  clear x1 H1 k1 h1
  go_wp2_with fail
  refine (H2 _ K1.out).out.mono ?_
  rintro e w2 ⟨A2, a2, R2, b2, O2, d2, rfl, k2⟩
  have x2 := below_one w2 (.cells #[.slice A2 1 a2, .int .i64 2, .string ⟨#[122]⟩, .slice R2 1 b2, .slice O2 0 d2] 27)
  have h2 := heap_alloc_new w2 (.cells #[.slice A2 1 a2, .int .i64 2, .string ⟨#[122]⟩, .slice R2 1 b2, .slice O2 0 d2] 27)
  have l2 : w2.heap.size < (w2.alloc (.cells #[.slice A2 1 a2, .int .i64 2, .string ⟨#[122]⟩, .slice R2 1 b2, .slice O2 0 d2] 27)).heap.size := by simp
  replace r0 := cell_keep x2 (cell_keep k2 r0)
  replace r1 := cell_keep x2 (cell_keep k2 r1)
  have l12 := k2.size
  have g1 := (x2.block w1.heap.size (by omega)).trans ((k2.block w1.heap.size l1).trans HH1.out)
  have K2 := hid (K1.out.trans ((k2.trans (x2.mono k2.size)).mono K1.out.size))
  have HH2 := hid h2
  have G1 := hid g1
  clear x2 H2 k2 h2 g1 HH1 K1
  go_wp2_with fail
  refine (H3 _ K2.out).out.mono ?_
  rintro e w3 ⟨A3, a3, R3, b3, O3, d3, rfl, k3⟩
  have x3 := below_one w3 (.cells #[.slice A3 0 a3, .int .i64 0, .string ⟨#[]⟩, .slice R3 0 b3, .slice O3 0 d3] 27)
  replace r0 := cell_keep x3 (cell_keep k3 r0)
  replace r1 := cell_keep x3 (cell_keep k3 r1)
  have l23 := k3.size
  have g1 := (x3.block w1.heap.size (by omega)).trans ((k3.block w1.heap.size (by omega)).trans G1.out)
  have g2 := (x3.block w2.heap.size (by omega)).trans ((k3.block w2.heap.size l2).trans HH2.out)
  have K3 := hid (K2.out.trans ((k3.trans (x3.mono k3.size)).mono K2.out.size))
  have G2 := hid (And.intro g1 g2)
  have l3 : w3.heap.size < (w3.alloc (.cells #[.slice A3 0 a3, .int .i64 0, .string ⟨#[]⟩, .slice R3 0 b3, .slice O3 0 d3] 27)).heap.size := by simp
  clear x3 H3 k3 g1 g2 G1 HH2 K2
  go_wp2_with fail
  refine (H4 _ K3.out).out.mono ?_
  rintro e w4 ⟨A4, a4, R4, b4, O4, d4, rfl, k4⟩
  replace r0 := cell_keep k4 r0
  replace r1 := cell_keep k4 r1
  have l34 := k4.size
  have g1 := (k4.block w1.heap.size (by omega)).trans G2.out.1
  have g2 := (k4.block w2.heap.size (by omega)).trans G2.out.2
  have c13 := box_cell g1 3
  have c14 := box_cell g1 4
  have c21 := box_cell g2 1
  have c22 := box_cell g2 2
  have K4 := hid ((K3.out.trans (k4.mono K3.out.size)).trans ((below_one w4 (.cells #[.slice A4 0 a4, .int .i64 0, .string ⟨#[]⟩, .slice R4 0 b4, .slice O4 0 d4] 27)).mono (K3.out.trans (k4.mono K3.out.size)).size))
  have m1 : w1.heap.size < w4.heap.size := by omega
  have m2 : w2.heap.size < w4.heap.size := by omega
  have m3 : br < w4.heap.size := cell_lt r0
  clear k4 g1 g2 G2 H4 K3
  go_wp2
  go_ret
  exact ⟨rfl, K4.out⟩
end

/-! ### Lr1 -/
section
open Go.RowKit

set_option maxRecDepth 100000 in
set_option maxHeartbeats 1000000 in
theorem ref_word (s : ByteArray) (a : Nat) (ha : a ≤ s.size) (w : World) (hs : s.size ≤ 100000) {x : Nat} (hx : a + wordLen (s.data.toList.drop a) = x) :
    Calls Tryz.prog 106 #[.string s, .int .i64 a] w fun e w' => e = .returned (.int .i64 x) ∧ w = w' := by
  have HX : Hid (wordLen (s.data.toList.drop a) + a = x) := hid (by rw [← hx]; omega)
  clear hx
  go_enter Tryz.func106, Tryz.ntmps106
  go_wp2
  go_loop [1] (fun i => ∃ k : Nat, k ≤ s.size ∧ i = .int .i64 k ∧ Hid (wordLen (s.data.toList.drop k) + k = x)) (fun i => s.size - (intOf i).toNat)
  case atStart => exact ⟨a, by omega, rfl, HX⟩
  case round =>
    obtain ⟨k, hk, rfl, HK⟩ := hrel
    clear HX
    by_cases hlt : k < s.size
    · have hlt' : k < s.data.toList.length := by simpa using hlt
      have hb := s[k].toNat_lt
      rcases wrd_ways s[k] with ⟨a1, a4⟩ | ⟨a1, a2, a4⟩ | ⟨a1, a2, a3, a4⟩ | ⟨a1, a2, a3, a4⟩
      · have hst := wordLen_step hlt' a4
        rw [hst] at HK
        have H1 := fun W => hid (ref_letter s[k] W a1)
        have HK2 := hid ((Nat.add_right_comm _ _ _).trans HK.out)
        clear hst HK a1 a4
        go_wp2_with fail
        refine (H1 _).out.mono ?_
        rintro e w1 ⟨rfl, rfl⟩
        clear H1
        go_wp2
        go_round
        case rel => exact ⟨k + 1, by omega, by go_num, HK2⟩
        case measure => simp [intOf]; omega
      · have hst := wordLen_step hlt' a4
        rw [hst] at HK
        have H1 := fun W => hid (ref_letter s[k] W a1)
        have H2 := fun W => hid (ref_digit s[k] W a2)
        have HK2 := hid ((Nat.add_right_comm _ _ _).trans HK.out)
        clear hst HK a1 a2 a4
        go_wp2_with fail
        refine (H1 _).out.mono ?_
        rintro e w1 ⟨rfl, rfl⟩
        clear H1
        go_wp2_with fail
        refine (H2 _).out.mono ?_
        rintro e w1 ⟨rfl, rfl⟩
        clear H2
        go_wp2
        go_round
        case rel => exact ⟨k + 1, by omega, by go_num, HK2⟩
        case measure => simp [intOf]; omega
      · have hst := wordLen_step hlt' a4
        rw [hst] at HK
        have H1 := fun W => hid (ref_letter s[k] W a1)
        have H2 := fun W => hid (ref_digit s[k] W a2)
        have HK2 := hid ((Nat.add_right_comm _ _ _).trans HK.out)
        have b95 : ((s[k].toNat : Int) == 95) = true := by rw [beq_iff_eq]; omega
        clear hst HK a1 a2 a3 a4
        go_wp2_with fail
        refine (H1 _).out.mono ?_
        rintro e w1 ⟨rfl, rfl⟩
        clear H1
        go_wp2_with fail
        refine (H2 _).out.mono ?_
        rintro e w1 ⟨rfl, rfl⟩
        clear H2
        go_wp2
        go_round
        case rel => exact ⟨k + 1, by omega, by go_num, HK2⟩
        case measure => simp [intOf]; omega
      · rw [wordLen_halt hlt' a4, Nat.zero_add] at HK
        obtain rfl := HK.out
        have H1 := fun W => hid (ref_letter s[k] W a1)
        have H2 := fun W => hid (ref_digit s[k] W a2)
        have b95 : ((s[k].toNat : Int) == 95) = false := by rw [beq_eq_false_iff_ne]; omega
        clear HK a1 a2 a4
        go_wp2_with fail
        refine (H1 _).out.mono ?_
        rintro e w1 ⟨rfl, rfl⟩
        clear H1
        go_wp2_with fail
        refine (H2 _).out.mono ?_
        rintro e w1 ⟨rfl, rfl⟩
        clear H2
        go_wp2
        go_ret
        exact ⟨rfl, rfl⟩
    · have e : s.data.toList.drop k = [] := List.drop_eq_nil_of_le (by simp; omega)
      rw [e] at HK
      have e2 : Hid (x = s.size) := hid (by rw [← HK.out]; simp [wordLen]; omega)
      have hks : k = s.size := by omega
      subst hks
      clear HK e
      go_wp2
      go_ret
      exact ⟨ret_i (by rw [e2.out]), rfl⟩

/-- Where a string ends, or -1. -/
def qInt (o : Option Nat) (k : Nat) : Int := match o with
  | some n => ((k + n : Nat) : Int)
  | none => -1
theorem qInt_map (o : Option Nat) (k : Nat) : qInt (o.map (· + 1)) k = qInt o (k + 1) := by
  cases o with
  | none => rfl
  | some n => show ((k + (n + 1) : Nat) : Int) = ((k + 1 + n : Nat) : Int); congr 1; omega
theorem qInt_esc (l : List UInt8) (k : Nat) : qInt (strGo true (l.drop (k + 1))) (k + 1) = qInt (strGo false (l.drop (k + 2))) (k + 2) := by
  by_cases h : k + 1 < l.length
  · rw [strGo_esc1 h, qInt_map]
  · rw [List.drop_eq_nil_of_le (by omega), List.drop_eq_nil_of_le (by omega)]; rfl

set_option maxRecDepth 100000 in
set_option maxHeartbeats 1000000 in
theorem ref_quote (s : ByteArray) (a : Nat) (ha : a < s.size) (w : World) (hs : s.size ≤ 100000) {x : Int} (hx : qInt (strLen (s.data.toList.drop a)) a = x) :
    Calls Tryz.prog 110 #[.string s, .int .i64 a] w fun e w' => e = .returned (.int .i64 x) ∧ w = w' := by
  have HX : Hid (qInt (strGo false (s.data.toList.drop (a + 1))) (a + 1) = x) := hid (by rw [← hx]; unfold strLen; rw [qInt_map, List.drop_drop])
  clear hx
  go_enter Tryz.func110, Tryz.ntmps110
  go_wp2
  go_loop [1] (fun i => ∃ k : Nat, k ≤ s.size + 1 ∧ i = .int .i64 k ∧ Hid (qInt (strGo false (s.data.toList.drop k)) k = x)) (fun i => s.size + 2 - (intOf i).toNat)
  case atStart => exact ⟨a + 1, by omega, by go_num, HX⟩
  case round =>
    obtain ⟨k, hk, rfl, HK⟩ := hrel
    clear HX
    by_cases hlt : k < s.size
    · have hlt' : k < s.data.toList.length := by simpa using hlt
      by_cases h34 : s[k].toNat = 34
      · have hx := HK.out
        rw [strGo_34 hlt' (by have e : s[k] = 34 := UInt8.toNat.inj h34; exact e)] at hx
        have E1 : Hid (x = (k : Int) + 1) := hid (by rw [← hx]; rfl)
        clear hx HK
        go_wp2
        go_ret
        exact ⟨ret_i (by rw [E1.out]), rfl⟩
      · have b34 : ((s[k].toNat : Int) == 34) = false := by rw [beq_eq_false_iff_ne]; omega
        by_cases h92 : s[k].toNat = 92
        · have HN : Hid (qInt (strGo false (s.data.toList.drop (k + 2))) (k + 2) = x) := hid (by
            rw [← HK.out, strGo_92 hlt' (by have e : s[k] = 92 := UInt8.toNat.inj h92; exact e), qInt_map, qInt_esc])
          clear HK h34
          go_wp2
          go_round
          case rel => exact ⟨k + 2, by omega, by go_num, HN⟩
          case measure => simp [intOf]; omega
        · have b92 : ((s[k].toNat : Int) == 92) = false := by rw [beq_eq_false_iff_ne]; omega
          have HN : Hid (qInt (strGo false (s.data.toList.drop (k + 1))) (k + 1) = x) := hid (by
            rw [← HK.out, strGo_else hlt' (fun e => h92 (congrArg UInt8.toNat e)) (fun e => h34 (congrArg UInt8.toNat e)), qInt_map])
          clear HK h34 h92
          go_wp2
          go_round
          case rel => exact ⟨k + 1, by omega, by go_num, HN⟩
          case measure => simp [intOf]; omega
    · have E1 : Hid (x = -1) := hid (by rw [← HK.out, List.drop_eq_nil_of_le (by simp; omega)]; rfl)
      have hge : s.size ≤ k := by omega
      clear HK
      go_wp2
      go_ret
      exact ⟨ret_i (by rw [E1.out]), rfl⟩
end
end Go.Proofs.YtnbacdmlaedppaaGreatDoor
