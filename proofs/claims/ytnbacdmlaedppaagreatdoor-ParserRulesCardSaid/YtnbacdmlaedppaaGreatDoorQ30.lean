/-
  PARTS of a claim, merged by segs.py: PgQ, PsW, PgS.
-/
import Derived.Test.YtnbacdmlaedppaaGreatDoorQ23
import Derived.Test.YtnbacdmlaedppaaGreatDoorQ28
import Derived.Test.YtnbacdmlaedppaaGreatDoorQ29
import Derived.Test.YtnbacdmlaedppaaGreatDoorQ03
import Derived.Test.YtnbacdmlaedppaaGreatDoorQ09
import Derived.Test.YtnbacdmlaedppaaGreatDoorQ13
import Derived.Test.YtnbacdmlaedppaaGreatDoorQ04
import Derived.Test.YtnbacdmlaedppaaGreatDoorQ05
namespace Go.Proofs.YtnbacdmlaedppaaGreatDoor

/-! ### PgQ -/
section
open Go.RowKit

/-- What query answers. -/
def RetQu (bp : Nat) (A : Option Addr) (c : Nat) (L : List Tok) (bq : Nat) (o : Out Qry) (w : World) (e : Ending) (w' : World) : Prop := (match o with
  | .bad b => e = .returned (.bool false) ∧ PW bp A c L b w'
  | .ok q nx => e = .returned (.bool true) ∧ PW bp A c L nx w' ∧ ∃ H ch R cr O co, w'.heap[bq]? = some (.cells (qyC H q.head.length ch q.agg ⟨q.aggVar.toArray⟩ R q.rules.length cr O q.order.length co) 27) ∧ OwnQy w' w.heap.size H ch R cr O co q) ∧ Chg [bp, bq] w w'
section
variable {bp c : Nat} {A : Option Addr} {L : List Tok} {w : World}
set_option maxRecDepth 100000 in
set_option maxHeartbeats 4000000 in
theorem prs_query (hp : PW bp A c L 0 w) {bq : Nat} (hb : w.heap[bq]? = some (.cells (qryA (.slice none 0 0) 0 ⟨#[]⟩ (.slice none 0 0) (.slice none 0 0)) 27)) (hpq : bp < bq) {o : Out Qry} (ho : queryS (tkL L) L.length = o) :
    Calls Tryz.prog 22 #[.pointer (some ⟨bp, 0, none⟩), .pointer (some ⟨bq, 0, none⟩)] w (RetQu bp A c L bq o w) := by
  have hmf : ∀ (fn : Fn) (first cap : Array Value) (w : World), (Instr.makeFunc fn first cap).run Tryz.prog w = .ok (.func fn first cap) w := fun _ _ _ _ => rfl
  have hlb := lt_of_block hb
  obtain ⟨W, hW⟩ : ∃ W, (w.alloc (.cells #[.pointer (some ⟨bp, 0, none⟩)] 69)).alloc (.cells #[.pointer (some ⟨bq, 0, none⟩)] 73) = W := ⟨_, rfl⟩
  have k0 : Below w.heap.size w W := by rw [← hW]; exact ((Below.refl _ _).alloc (Nat.le_refl _) _).alloc (by simp) _
  have hsz : W.heap.size = w.heap.size + 1 + 1 := by rw [← hW]; simp
  have hgp : W.heap[w.heap.size]? = some (.cells #[.pointer (some ⟨bp, 0, none⟩)] 69) := by rw [← hW, Below.heap_alloc _ _ _ (by simp)]; exact heap_alloc_new w _
  have hgq : W.heap[w.heap.size + 1]? = some (.cells #[.pointer (some ⟨bq, 0, none⟩)] 73) := by rw [← hW]; have := heap_alloc_new (w.alloc (.cells #[.pointer (some ⟨bp, 0, none⟩)] 69)) (.cells #[.pointer (some ⟨bq, 0, none⟩)] 73); rwa [World.size_alloc] at this
  have hE := hp.ended
  have HEn := hid hE
  have K0 := hid (chg_below (S := [bp, bq]) k0)
  have HW := hid hW
  have cp := box_cell hgp 0
  have cq := box_cell hgq 0
  have hlp := hp.block_lt
  have HBx := hid (fun (V : World) (h : Chg [bp, bq] W V) => (show V.heap[w.heap.size]? = some (.cells #[.pointer (some ⟨bp, 0, none⟩)] 69) ∧ V.heap[w.heap.size + 1]? = some (.cells #[.pointer (some ⟨bq, 0, none⟩)] 73) ∧ W.heap.size ≤ V.heap.size from
    ⟨(h.block _ (by omega) (by simp; omega)).trans hgp, (h.block _ (by omega) (by simp; omega)).trans hgq, h.size⟩))
  obtain ⟨oh, hoh⟩ : ∃ oh, headG (tkL L) L.length = oh := ⟨_, rfl⟩
  have HH := hid (prs_head (hp.below k0) ((k0.block bq hlb).trans hb) hpq hoh)
  unfold queryS at ho
  rw [hoh] at ho
  have HSo := hid (fun q nx (e : oh = .ok q nx) => And.intro (headS_sort (hoh.trans e)) (headS_nx hE (hoh.trans e)))
  clear hp hb hgp hgq hE hW hoh
  cases oh with
  | bad b =>
    simp only at ho
    subst ho
    go_enter Tryz.func22, Tryz.ntmps22
    go_wp2_with (first | rw [HW.out] | fail)
    refine HH.out.mono ?_
    rintro e w1 ⟨⟨rfl, p1⟩, c1⟩
    have HG := hid (And.intro p1 (K0.out.trans c1))
    clear p1 c1 HH cp cq HBx
    go_wp2
    go_ret
    exact ⟨⟨rfl, HG.out.1⟩, HG.out.2⟩
  | ok q0 nx =>
    obtain ⟨⟨hq1, hq2⟩, hnx⟩ := HSo.out q0 nx rfl
    obtain ⟨hs, ga, gs, gr, go⟩ := q0
    simp only at hq1 hq2 ho HH
    subst hq1 hq2
    clear HSo
    obtain ⟨orl, horl⟩ : ∃ orl, rulesS (tkL L) L.length L.length nx [] = orl := ⟨_, rfl⟩
    rw [horl] at ho
    rw [← listS_rules] at horl
    have HO := hid ho
    have HRl := hid horl
    clear ho horl
    go_enter Tryz.func22, Tryz.ntmps22
    go_wp2_with (first | rw [HW.out] | fail)
    refine HH.out.mono ?_
    rintro e w1 ⟨⟨rfl, p1, H, ch, b1, r1⟩, c1⟩
    obtain ⟨g1, g2, g3⟩ := HBx.out w1 c1
    have cp1 := box_cell g1 0
    have hlb1 := lt_of_block b1
    have hlay : LayQ w1 bp bq w.heap.size (w.heap.size + 1) w1.heap.size := ⟨hpq, hlb1, Nat.le_refl _, g1, g2, ⟨by omega, by omega⟩, ⟨by omega, by omega⟩⟩
    have HL := hid (prs_list (ruleStep (tkL L) L.length) (PgUR w1 bp bq w1.heap.size (.slice H hs.length ch) (.int .i64 ga) (.string ⟨gs.toArray⟩) (.slice none 0 0)) (QuB w1 bp bq) (fun _ _ => rfl) (by decide) (fun i nx a b e => ruleStep_nx HEn.out e) (fun i j s W1 W2 h hc hj => h.on hlay hc hj)
      (fun s i V2 p2 r2 => prs_query1 hlay p2 r2) p1 ⟨_, b1, OwnRls.nil, Chg.refl _ _, by simp, Nat.le_refl _⟩ HRl.out)
    have HF1 := hid (And.intro r1 c1)
    have HNx2 := hid (fun rs n2 (e : orl = .ok rs n2) => (HRl.out.trans e))
    clear p1 b1 r1 c1 HH cp cq g1 g2 hlay HRl
    cases orl with
    | bad b =>
      have hO := HO.out
      simp only at hO
      subst hO
      go_wp2_with fail
      refine HL.out.mono ?_
      rintro e w2 ⟨rfl, p2, r2⟩
      have HG := hid (And.intro p2 (K0.out.trans (HF1.out.2.trans r2)))
      clear p2 r2 HL cp1 HBx HF1 HO
      go_wp2
      go_ret
      exact ⟨⟨rfl, HG.out.1⟩, HG.out.2⟩
    | ok rs n2 =>
      obtain ⟨z, hz⟩ : ∃ z, isT (tkL L n2) sOrder = z := ⟨_, rfl⟩
      have HS := hid (fun V (p : PW bp A c L n2 V) => prs_skipn p (s := sOrder) (by decide) hz rfl)
      have hO := HO.out
      simp only at hO
      rw [hz] at hO
      have HO2 := hid hO
      clear HO hO hz HNx2
      go_wp2_with fail
      refine HL.out.mono ?_
      rintro e w2 ⟨rfl, p2, u, h1, h2, h3, h4, h5⟩
      obtain ⟨R, cr, rfl⟩ : ∃ R cr, u = .slice R rs.length cr := (let ⟨_, _, _, _, h, _⟩ := h2; own_shape h)
      have hc2 := HF1.out.2.trans h3
      obtain ⟨g1, g2, g4⟩ := HBx.out w2 hc2
      have cp2 := box_cell g1 0
      have lp2 := lt_of_block g1
      have HS2 := hid (HS.out w2 p2)
      have HF2 := hid (And.intro h1 (And.intro h2 (And.intro (h3.ownS HF1.out.1 (fun s hs => by simp at hs; omega)) hc2)))
      clear p2 h1 h2 h3 hc2 g1 g2 HL cp1 HS HF1
      go_wp2_with fail
      refine HS2.out.mono ?_
      rintro e w3 ⟨rfl, p3, c3⟩
      have HF3 := hid (show PW bp A c L (if z = true then n2 + 1 else n2) w3 ∧ w3.heap[bq]? = some (.cells #[.slice H hs.length ch, .int .i64 ga, .string ⟨gs.toArray⟩, .slice R rs.length cr, .slice none 0 0] 27) ∧ OwnRls w3 w1.heap.size (.slice R rs.length cr) rs ∧ w3.ownsRow W.heap.size 9 1 (.slice H hs.length ch) hs.length (hs.map nmV) ∧ Chg [bp, bq] W w3 from by
        obtain ⟨h1, h2, h3, h4⟩ := HF2.out
        exact ⟨p3, (c3.block bq (lt_of_block h1) (by simp; omega)).trans h1, h2.chg c3 (fun s hs => by simp at hs; omega), c3.ownS h3 (fun s hs => by simp at hs; omega), h4.trans (c3.mono (fun s hs => by simp at hs; simp [hs]))⟩)
      clear p3 c3 HS2 cp2 lp2 HF2
      cases z with
      | false =>
        have hO := HO2.out
        rw [if_neg (by decide)] at hO
        subst hO
        clear HO2
        go_wp2
        go_ret
        obtain ⟨h0, h1, h2, h3, h4⟩ := HF3.out
        exact ⟨⟨rfl, h0, H, ch, R, cr, none, 0, h1, ⟨ren_mono h3 (by omega), h2.mono (by omega), World.ownsRow_nil _ _ _ _⟩⟩, K0.out.trans h4⟩
      | true =>
        have hO := HO2.out
        rw [if_pos rfl] at hO
        simp only [if_true] at HF3
        obtain ⟨h0, h1, h2, h3, h4⟩ := HF3.out
        obtain ⟨ok, hok⟩ : ∃ ok, keysS (tkL L) L.length (n2 + 1) [] = ok := ⟨_, rfl⟩
        rw [hok] at hO
        rw [← listS_keys] at hok
        have HO3 := hid hO
        obtain ⟨g1, g2, g4⟩ := HBx.out w3 h4
        have cp3 := box_cell g1 0
        have hlb3 := lt_of_block h1
        have hlay : LayQ w3 bp bq w.heap.size (w.heap.size + 1) w3.heap.size := ⟨hpq, hlb3, Nat.le_refl _, g1, g2, ⟨by omega, by omega⟩, ⟨by omega, by omega⟩⟩
        have HL := hid (prs_list (keyStep (tkL L)) (PgKR w3 bp bq w3.heap.size (.slice H hs.length ch) (.int .i64 ga) (.string ⟨gs.toArray⟩) (.slice R rs.length cr)) (QuB w3 bp bq) (fun _ _ => rfl) (by decide) (fun i nx a b e => keyStep_nx HEn.out e) (fun i j s W1 W2 h hc hj => h.on hlay hc hj)
          (fun s i V2 p2 r2 => prs_key2 hlay p2 r2) h0 ⟨_, h1, World.ownsRow_nil _ _ _ _, Chg.refl _ _, by simp, Nat.le_refl _⟩ hok)
        clear HO2 hO h0 h1 h2 h3 h4 g1 g2 hlay hok
        cases ok with
        | bad b =>
          have hO := HO3.out
          simp only at hO
          subst hO
          go_wp2_with fail
          refine HL.out.mono ?_
          rintro e w4 ⟨rfl, p4, r4⟩
          have HG := hid (And.intro p4 (K0.out.trans (HF3.out.2.2.2.2.trans r4)))
          clear p4 r4 HL cp3 HBx HF3 HO3
          go_wp2
          go_ret
          exact ⟨⟨rfl, HG.out.1⟩, HG.out.2⟩
        | ok ks n3 =>
          have hO := HO3.out
          simp only at hO
          subst hO
          go_wp2_with fail
          refine HL.out.mono ?_
          rintro e w4 ⟨rfl, p4, u, h1, h2, h3, _, h5⟩
          obtain ⟨O, co, rfl⟩ := own_shape h2
          have HG := hid (And.intro p4 (And.intro h1 (And.intro h2 (And.intro h3 h5))))
          clear p4 h1 h2 h3 HL cp3 HBx HO3
          go_wp2
          go_ret
          obtain ⟨p4, h1, h2, h3, h5⟩ := HG.out
          obtain ⟨_, _, j2, j3, j4⟩ := HF3.out
          exact ⟨⟨rfl, p4, H, ch, R, cr, O, co, h1, ⟨ren_mono (h3.ownS j3 (fun s hs => by simp at hs; omega)) (by omega), (j2.chg h3 (fun s hs => by simp at hs; omega)).mono (by omega), ren_mono h2 (by omega)⟩⟩, K0.out.trans (j4.trans h3)⟩
end
end

/-! ### PsW -/
section

/-- Tokens of a bounded text. -/
structure TkOk (tk : Nat → Tok) : Prop where
  t : ∀ i, (tk i).t.length ≤ 9223372036854775807
  v : ∀ i, (tk i).v.wf
theorem V0_wf : V.wf V0 := ⟨⟨by decide, by decide⟩, ⟨by decide, by decide⟩, by decide⟩
section
variable {tk : Nat → Tok}
theorem term_wf (h : TkOk tk) {i : Nat} {t : Trm} (ht : termT (tk i) = some t) : t.wf := by
  unfold termT at ht
  split at ht
  · injection ht with ht
    subst ht
    exact ⟨h.t i, V0_wf⟩
  · cases hc : constT (tk i) with
    | none => rw [hc] at ht; cases ht
    | some v =>
      rw [hc] at ht
      injection ht with ht
      subst ht
      unfold constT at hc
      split at hc
      · injection hc with hc
        subst hc
        exact ⟨by simp, h.v i⟩
      · cases hc
theorem const_wf (h : TkOk tk) {i : Nat} {v : V} (hc : constT (tk i) = some v) : v.wf := by
  unfold constT at hc
  split at hc
  · injection hc with hc
    subst hc
    exact h.v i
  · cases hc
theorem termsS_ok (h : TkOk tk) : ∀ {f i : Nat} {acc ts : List Trm} {nx : Nat}, termsS tk f i acc = .ok ts nx → (∀ t ∈ acc, t.wf) → (∀ t ∈ ts, t.wf) ∧ ts.length ≤ acc.length + f
  | 0, i, acc, ts, nx, e, _ => by cases e
  | f + 1, i, acc, ts, nx, e, ha => by
    unfold termsS at e
    cases ht : termT (tk i) with
    | none => rw [ht] at e; cases e
    | some t =>
      rw [ht] at e
      have hw := term_wf h ht
      have ha2 : ∀ x ∈ acc ++ [t], x.wf := fun x hx => by
        rcases List.mem_append.1 hx with hx | hx
        · exact ha x hx
        · rw [List.mem_singleton] at hx; subst hx; exact hw
      simp only at e
      split at e
      · injection e with e1 _
        subst e1
        exact ⟨ha2, by simp⟩
      · split at e
        · obtain ⟨h1, h2⟩ := termsS_ok h e ha2
          exact ⟨h1, by simp at h2; omega⟩
        · cases e
/-- A rule that is well formed and has at most so many atoms, conditions, terms. -/
structure RulOkN (n m : Nat) (r : Rul) : Prop where
  wf : r.wf
  a : r.atoms.length ≤ m
  c : r.conds.length ≤ m
  t : ∀ a ∈ r.atoms, a.ts.length ≤ n
theorem RulOkN.nil (n : Nat) : RulOkN n 0 ⟨[], []⟩ := ⟨⟨fun a ha => (by cases ha), fun c hc => (by cases hc)⟩, by simp, by simp, fun a ha => (by cases ha)⟩
theorem itemS_ok (h : TkOk tk) {n m i nx : Nat} {r r' : Rul} (e : itemS tk n i r = .ok r' nx) (hr : RulOkN n m r) : RulOkN n (m + 1) r' := by
  unfold itemS at e
  simp only at e
  generalize (if isT (tk i) sNot = true then i + 1 else i) = j at e
  split at e
  · cases e
  · split at e
    · cases hp : parenS tk n (j + 2) with
      | bad x => rw [hp] at e; cases e
      | ok ts nx2 =>
        rw [hp] at e
        injection e with e1 _
        subst e1
        have hts : (∀ t ∈ ts, t.wf) ∧ ts.length ≤ n := by
          unfold parenS at hp
          split at hp
          · injection hp with hp _
            subst hp
            exact ⟨fun t ht => (by cases ht), by simp⟩
          · have := termsS_ok h hp (fun t ht => (by cases ht))
            simpa using this
        refine ⟨⟨fun a ha => ?_, hr.wf.conds⟩, by simp; exact hr.a, by have := hr.c; show r.conds.length ≤ m + 1; omega, fun a ha => ?_⟩
        · rcases List.mem_append.1 ha with ha | ha
          · exact hr.wf.atoms a ha
          · rw [List.mem_singleton] at ha; subst ha; exact ⟨h.t j, hts.1⟩
        · rcases List.mem_append.1 ha with ha | ha
          · exact hr.t a ha
          · rw [List.mem_singleton] at ha; subst ha; exact hts.2
    · split at e
      · cases e
      · cases ho : opT (tk (j + 1)) with
        | none => rw [ho] at e; cases e
        | some o =>
          rw [ho] at e
          simp only at e
          cases hc : constT (tk (j + 2)) with
          | none => rw [hc] at e; cases e
          | some v =>
            rw [hc] at e
            injection e with e1 _
            subst e1
            have hol : o < 6 := by
              unfold opT at ho
              obtain ⟨h1, _⟩ := List.findIdx?_eq_some_iff_getElem.1 ho
              exact h1
            refine ⟨⟨hr.wf.atoms, fun c hcm => ?_⟩, by have := hr.a; show r.atoms.length ≤ m + 1; omega, by simp; exact hr.c, hr.t⟩
            rcases List.mem_append.1 hcm with hcm | hcm
            · exact hr.wf.conds c hcm
            · rw [List.mem_singleton] at hcm; subst hcm
              exact ⟨h.t j, ⟨by show -9223372036854775808 ≤ (o : Int); omega, by show (o : Int) ≤ 9223372036854775807; omega⟩, const_wf h hc⟩
theorem RulOkN.mono {n m m' : Nat} {r : Rul} (h : RulOkN n m r) (hm : m ≤ m') : RulOkN n m' r := ⟨h.wf, Nat.le_trans h.a hm, Nat.le_trans h.c hm, h.t⟩
theorem ruleS_ok (h : TkOk tk) {n : Nat} : ∀ {f m i nx : Nat} {r r' : Rul}, ruleG tk n f i r = .ok r' nx → RulOkN n m r → RulOkN n (m + f) r'
  | 0, m, i, nx, r, r', e, _ => by cases e
  | f + 1, m, i, nx, r, r', e, hr => by
    unfold ruleG at e
    cases hi : itemS tk n i r with
    | bad x => rw [hi] at e; cases e
    | ok r2 nx2 =>
      rw [hi] at e
      simp only at e
      have h2 := itemS_ok h hi hr
      split at e
      · exact (ruleS_ok h e h2).mono (by omega)
      · injection e with e1 _
        subst e1
        exact h2.mono (by omega)
theorem namesS_ok (h : TkOk tk) : ∀ {f i nx : Nat} {acc l : List Str}, namesS tk f i acc = .ok l nx → (∀ s ∈ acc, s.length ≤ 9223372036854775807) → (∀ s ∈ l, s.length ≤ 9223372036854775807) ∧ l.length ≤ acc.length + f
  | 0, i, nx, acc, l, e, _ => by cases e
  | f + 1, i, nx, acc, l, e, ha => by
    unfold namesS at e
    have ha2 : ∀ x ∈ acc ++ [(tk i).t], x.length ≤ 9223372036854775807 := fun x hx => by
      rcases List.mem_append.1 hx with hx | hx
      · exact ha x hx
      · rw [List.mem_singleton] at hx; subst hx; exact h.t i
    split at e
    · cases e
    · split at e
      · obtain ⟨h1, h2⟩ := namesS_ok h e ha2
        exact ⟨h1, by simp at h2; omega⟩
      · injection e with e1 _
        subst e1
        exact ⟨ha2, by simp⟩
theorem keysS_ok (h : TkOk tk) : ∀ {f i nx : Nat} {acc l : List Ky}, keysS tk f i acc = .ok l nx → (∀ s ∈ acc, s.v.length ≤ 9223372036854775807) → (∀ s ∈ l, s.v.length ≤ 9223372036854775807) ∧ l.length ≤ acc.length + f
  | 0, i, nx, acc, l, e, _ => by cases e
  | f + 1, i, nx, acc, l, e, ha => by
    unfold keysS at e
    split at e
    · cases e
    · simp only at e
      generalize isT (tk (i + 1)) sDesc = d at e
      generalize (if d = true then i + 2 else i + 1) = j at e
      have ha2 : ∀ x ∈ acc ++ [(⟨(tk i).t, d⟩ : Ky)], x.v.length ≤ 9223372036854775807 := fun x hx => by
        rcases List.mem_append.1 hx with hx | hx
        · exact ha x hx
        · rw [List.mem_singleton] at hx; subst hx; exact h.t i
      split at e
      · obtain ⟨h1, h2⟩ := keysS_ok h e ha2
        exact ⟨h1, by simp at h2; omega⟩
      · injection e with e1 _
        subst e1
        exact ⟨ha2, by simp⟩
theorem rulesS_ok (h : TkOk tk) {n : Nat} : ∀ {f i nx : Nat} {acc l : List Rul}, rulesS tk n f i acc = .ok l nx → (∀ r ∈ acc, RulOkN n n r) → (∀ r ∈ l, RulOkN n n r) ∧ l.length ≤ acc.length + f
  | 0, i, nx, acc, l, e, _ => by cases e
  | f + 1, i, nx, acc, l, e, ha => by
    unfold rulesS at e
    cases hi : ruleG tk n n i ⟨[], []⟩ with
    | bad x => rw [hi] at e; cases e
    | ok r2 nx2 =>
      rw [hi] at e
      simp only at e
      have h2 := (ruleS_ok h hi (RulOkN.nil n)).mono (m' := n) (by omega)
      have ha2 : ∀ x ∈ acc ++ [r2], RulOkN n n x := fun x hx => by
        rcases List.mem_append.1 hx with hx | hx
        · exact ha x hx
        · rw [List.mem_singleton] at hx; subst hx; exact h2
      split at e
      · obtain ⟨h1, h3⟩ := rulesS_ok h e ha2
        exact ⟨h1, by simp at h3; omega⟩
      · injection e with e1 _
        subst e1
        exact ⟨ha2, by simp⟩
end
end

/-! ### PgS -/
section

theorem nextL_val {r : List UInt8} {a : Int} {t : Tok} (h : nextL r a = (t, 0)) (h2 : t.k ≠ 2) (h3 : t.k ≠ 3) : t.v = V0 := by
  have lit : ∀ {k : Int} {x : List UInt8}, (k = 2 ∨ k = 3) → litTok k x a = (t, 0) → False := fun {k x} hk h => by
    obtain ⟨_, e⟩ := litTok_ok h
    have : t.k = k := by rw [e]
    rcases hk with hk | hk
    · exact h2 (this.trans hk)
    · exact h3 (this.trans hk)
  unfold nextL at h
  split at h
  · unfold wordTok at h
    split at h
    · injection h with h1 _; rw [← h1]
    · split at h
      · injection h with _ h2; exact absurd h2 (by decide)
      · injection h with h1 _; rw [← h1]
  · split at h
    · exact (lit (.inl rfl) h).elim
    · split at h
      · split at h
        · injection h with _ h2; exact absurd h2 (by decide)
        · exact (lit (.inr rfl) h).elim
      · obtain ⟨y, _, e⟩ := symTok_ok h
        rw [e]
theorem Sc.vals {l : List UInt8} {a : Int} {ts : List Tok} (h : Sc l a ts) : ∀ t ∈ ts, t.v.wf := by
  induction h with
  | nil a => intro t ht; rw [List.mem_singleton] at ht; subst ht; exact V0_wf
  | white h hs ih => exact ih
  | tok hr hw h hs ih =>
    intro t ht
    rcases List.mem_cons.1 ht with rfl | ht
    · by_cases hk : t.k = 2 ∨ t.k = 3
      · have h1 := nextL_lit h hk
        obtain ⟨h2, _, h3, h4⟩ := text_parse h1
        refine ⟨?_, h3, by omega⟩
        unfold V.valid at h2
        have : t.v.k = 1 ∨ t.v.k = 2 := by
          split at h2
          · exact .inl (by assumption)
          · split at h2
            · exact .inr (by assumption)
            · cases h2
        unfold I64
        omega
      · rw [nextL_val h (fun e => hk (.inl e)) (fun e => hk (.inr e))]; exact V0_wf
    · exact ih t ht
theorem Sc.tkOk {l : List UInt8} {a : Int} {ts : List Tok} (h : Sc l a ts) (hl : l.length ≤ 100000) : TkOk (tkL ts) := by
  refine ⟨fun i => ?_, fun i => h.vals _ (tkL_mem h.ended i)⟩
  have hp := h.ended.pos
  have hm : min i (ts.length - 1) < ts.length := by omega
  have := tok_le h hm
  unfold tkL
  rw [List.getD_eq_getElem?_getD, List.getElem?_eq_getElem hm]
  show ts[min i (ts.length - 1)].t.length ≤ _
  omega
section
variable {tk : Nat → Tok}
theorem endS_eq {i nx : Nat} {q q' : Qry} (e : endS tk i q = .ok q' nx) : q' = q := by
  unfold endS at e
  split at e
  · split at e
    · injection e with e _; exact e.symm
    · cases e
  · cases e
theorem semiS_ok (h : TkOk tk) {i nx : Nat} {hs : List Str} {q : Qry} (e : semiS tk i ⟨hs, 0, [], [], []⟩ = .ok q nx) : q.head = hs ∧ I64 q.agg ∧ q.aggVar.length ≤ 9223372036854775807 ∧ q.rules = [] ∧ q.order = [] := by
  unfold semiS at e
  split at e
  · cases ha : aggG tk (i + 1) ⟨hs, 0, [], [], []⟩ with
    | bad b => rw [ha] at e; cases e
    | ok q2 n2 =>
      rw [ha] at e
      rw [endS_eq e]
      unfold aggG at ha
      split at ha
      · injection ha with ha _; rw [← ha]; exact ⟨rfl, (show I64 1 from ⟨by decide, by decide⟩), by simp, rfl, rfl⟩
      · split at ha
        · cases ha
        · rename_i x hx
          split at ha
          · cases ha
          · injection ha with ha _
            rw [← ha]
            refine ⟨rfl, ?_, h.t _, rfl, rfl⟩
            have : x = 2 ∨ x = 3 ∨ x = 4 := by
              unfold aggT at hx
              split at hx
              · injection hx with hx; omega
              · split at hx
                · injection hx with hx; omega
                · split at hx
                  · injection hx with hx; omega
                  · cases hx
            show I64 x
            unfold I64
            omega
  · rw [endS_eq e]; exact ⟨rfl, (show I64 0 from ⟨by decide, by decide⟩), by simp, rfl, rfl⟩
theorem headG_ok (h : TkOk tk) {n nx : Nat} {q : Qry} (e : headG tk n = .ok q nx) : (∀ s ∈ q.head, s.length ≤ 9223372036854775807) ∧ q.head.length ≤ n ∧ I64 q.agg ∧ q.aggVar.length ≤ 9223372036854775807 ∧ q.rules = [] ∧ q.order = [] := by
  unfold headG at e
  split at e
  · cases e
  · split at e
    · cases e
    · split at e
      · cases hn : namesS tk n 2 [] with
        | bad b => rw [hn] at e; cases e
        | ok hs n2 =>
          rw [hn] at e
          obtain ⟨h1, h2⟩ := namesS_ok h hn (fun s hs => (by cases hs))
          obtain ⟨h3, h4⟩ := semiS_ok h e
          rw [h3]
          exact ⟨h1, by simpa using h2, h4⟩
      · obtain ⟨h3, h4⟩ := semiS_ok h e
        rw [h3]
        exact ⟨fun s hs => (by cases hs), by simp, h4⟩
/-- A query that the grammar makes. -/
structure QryOkN (n : Nat) (q : Qry) : Prop where
  wf : q.wf
  h : q.head.length ≤ n
  r : q.rules.length ≤ n
  o : q.order.length ≤ n
  s : ∀ r ∈ q.rules, RulOkN n n r
theorem queryS_ok (h : TkOk tk) {n nx : Nat} {q : Qry} (e : queryS tk n = .ok q nx) : QryOkN n q := by
  unfold queryS at e
  cases hh : headG tk n with
  | bad b => rw [hh] at e; cases e
  | ok q0 n0 =>
    rw [hh] at e
    simp only at e
    obtain ⟨h1, h2, h3, h4, h5, h6⟩ := headG_ok h hh
    cases hr : rulesS tk n n n0 [] with
    | bad b => rw [hr] at e; cases e
    | ok rs n1 =>
      rw [hr] at e
      simp only at e
      obtain ⟨g1, g2⟩ := rulesS_ok h hr (fun r hr => (by cases hr))
      have g2' : rs.length ≤ n := by simpa using g2
      split at e
      · cases hk : keysS tk n (n1 + 1) [] with
        | bad b => rw [hk] at e; cases e
        | ok ks n2 =>
          rw [hk] at e
          injection e with e _
          subst e
          obtain ⟨k1, k2⟩ := keysS_ok h hk (fun r hr => (by cases hr))
          exact ⟨⟨h1, h3, h4, fun r hr => (g1 r hr).wf, k1⟩, h2, g2', by simpa using k2, g1⟩
      · injection e with e _
        subst e
        exact ⟨⟨h1, h3, h4, fun r hr => (g1 r hr).wf, fun s hs => by simp only [h6] at hs; cases hs⟩, h2, g2', by simp [h6], g1⟩
end
section
variable {L : List Tok} (hE : Ended L)
include hE
theorem termsS_bad : ∀ {f i b : Nat} {acc : List Trm}, i < L.length → termsS (tkL L) f i acc = .bad b → b < L.length
  | 0, i, b, acc, hi, e => by injection e with e; omega
  | f + 1, i, b, acc, hi, e => by
    unfold termsS at e
    cases ht : termT (tkL L i) with
    | none => rw [ht] at e; injection e with e; omega
    | some t =>
      rw [ht] at e
      have h1 := hE.term ht
      simp only at e
      split at e
      · cases e
      · split at e
        · rename_i hc
          have := hE.isT hc
          exact termsS_bad (by omega) e
        · injection e with e; omega
theorem itemS_bad {n i b : Nat} {r : Rul} (hi : i < L.length) (e : itemS (tkL L) n i r = .bad b) : b < L.length := by
  unfold itemS at e
  simp only at e
  obtain ⟨j, hj⟩ : ∃ j, (if isT (tkL L i) sNot = true then i + 1 else i) = j := ⟨_, rfl⟩
  rw [hj] at e
  have hjl : j < L.length := by
    rw [← hj]
    split
    · rename_i h; have := hE.isT h; omega
    · exact hi
  split at e
  · injection e with e; omega
  · rename_i hk
    have h1 := hE.one (i := j) (by simpa using hk)
    split at e
    · rename_i ho
      have h2 := hE.isT ho
      cases hp : parenS (tkL L) n (j + 2) with
      | ok ts nx => rw [hp] at e; cases e
      | bad x =>
        rw [hp] at e
        injection e with e
        subst e
        unfold parenS at hp
        split at hp
        · cases hp
        · exact termsS_bad hE (by omega) hp
    · split at e
      · injection e with e; omega
      · cases ho : opT (tkL L (j + 1)) with
        | none => rw [ho] at e; injection e with e; omega
        | some o =>
          rw [ho] at e
          have h2 := hE.lt (opT_kind ho)
          simp only at e
          cases hc : constT (tkL L (j + 2)) with
          | none => rw [hc] at e; injection e with e; omega
          | some v => rw [hc] at e; cases e
theorem ruleG_bad {n : Nat} : ∀ {f i b : Nat} {r : Rul}, i < L.length → ruleG (tkL L) n f i r = .bad b → b < L.length
  | 0, i, b, r, hi, e => by injection e with e; omega
  | f + 1, i, b, r, hi, e => by
    unfold ruleG at e
    cases hr : itemS (tkL L) n i r with
    | bad x => rw [hr] at e; injection e with e; subst e; exact itemS_bad hE hi hr
    | ok r2 n2 =>
      rw [hr] at e
      simp only at e
      split at e
      · rename_i hc
        have := hE.isT hc
        exact ruleG_bad (by omega) e
      · cases e
theorem rulesS_bad {n : Nat} : ∀ {f i b : Nat} {acc : List Rul}, i < L.length → rulesS (tkL L) n f i acc = .bad b → b < L.length
  | 0, i, b, r, hi, e => by injection e with e; omega
  | f + 1, i, b, r, hi, e => by
    unfold rulesS at e
    cases hr : ruleG (tkL L) n n i ⟨[], []⟩ with
    | bad x => rw [hr] at e; injection e with e; subst e; exact ruleG_bad hE hi hr
    | ok r2 n2 =>
      rw [hr] at e
      simp only at e
      split at e
      · rename_i hc
        have := hE.isT hc
        exact rulesS_bad (by omega) e
      · cases e
theorem namesS_bad : ∀ {f i b : Nat} {acc : List Str}, i < L.length → namesS (tkL L) f i acc = .bad b → b < L.length
  | 0, i, b, r, hi, e => by injection e with e; omega
  | f + 1, i, b, r, hi, e => by
    unfold namesS at e
    split at e
    · injection e with e; omega
    · split at e
      · rename_i hc
        have := hE.isT hc
        exact namesS_bad (by omega) e
      · cases e
theorem keysS_bad : ∀ {f i b : Nat} {acc : List Ky}, i < L.length → keysS (tkL L) f i acc = .bad b → b < L.length
  | 0, i, b, r, hi, e => by injection e with e; omega
  | f + 1, i, b, r, hi, e => by
    unfold keysS at e
    split at e
    · injection e with e; omega
    · simp only at e
      generalize (if isT (tkL L (i + 1)) sDesc = true then i + 2 else i + 1) = j at e
      split at e
      · rename_i hc
        have := hE.isT hc
        exact keysS_bad (by omega) e
      · cases e
theorem endS_bad {i b : Nat} {q : Qry} (hi : i < L.length) (e : endS (tkL L) i q = .bad b) : b < L.length := by
  unfold endS at e
  split at e
  · rename_i h
    have := hE.isT h
    split at e
    · cases e
    · injection e with e; omega
  · injection e with e; omega
theorem semiS_bad {i b : Nat} {q : Qry} (hi : i < L.length) (e : semiS (tkL L) i q = .bad b) : b < L.length := by
  unfold semiS at e
  split at e
  · rename_i hs
    have h1 := hE.isT hs
    cases ha : aggG (tkL L) (i + 1) q with
    | bad x =>
      rw [ha] at e
      injection e with e
      subst e
      unfold aggG at ha
      split at ha
      · cases ha
      · split at ha
        · injection ha with ha; omega
        · rename_i y hy
          split at ha
          · injection ha with ha
            have : (tkL L (i + 1)).k ≠ 0 := by
              intro e0
              unfold aggT isT at hy
              rw [e0] at hy
              simp at hy
            have := hE.lt this
            omega
          · cases ha
    | ok q2 n2 =>
      rw [ha] at e
      exact endS_bad hE (aggS_nx hE ha).2 e
  · exact endS_bad hE hi e
theorem headG_bad {n b : Nat} (e : headG (tkL L) n = .bad b) : b < L.length := by
  have hp := hE.pos
  unfold headG at e
  split at e
  · injection e with e; omega
  · rename_i h0
    have hk : (tkL L 0).k = 1 := Classical.byContradiction fun h => h0 (.inl h)
    have h1 := hE.one hk
    split at e
    · injection e with e; omega
    · rename_i ho
      have h2 := hE.isT (i := 1) (s := sOpen) (by simpa using ho)
      split at e
      · cases hn : namesS (tkL L) n 2 [] with
        | bad x => rw [hn] at e; injection e with e; subst e; exact namesS_bad hE (by omega) hn
        | ok hs n2 => rw [hn] at e; exact semiS_bad hE (namesS_nx hE hn).2 e
      · exact semiS_bad hE (by omega) e
theorem queryS_bad {n b : Nat} (e : queryS (tkL L) n = .bad b) : b < L.length := by
  unfold queryS at e
  cases hh : headG (tkL L) n with
  | bad x => rw [hh] at e; injection e with e; subst e; exact headG_bad hE hh
  | ok q0 n0 =>
    rw [hh] at e
    simp only at e
    have h0 := (headS_nx hE hh).2
    cases hr : rulesS (tkL L) n n n0 [] with
    | bad x => rw [hr] at e; injection e with e; subst e; exact rulesS_bad hE h0 hr
    | ok rs n1 =>
      rw [hr] at e
      simp only at e
      split at e
      · rename_i ho
        have h2 := hE.isT ho
        cases hk : keysS (tkL L) n (n1 + 1) [] with
        | bad x => rw [hk] at e; injection e with e; subst e; exact keysS_bad hE h2 hk
        | ok ks n2 => rw [hk] at e; cases e
      · cases e
end
/-- What the program's Parse answers. -/
def parseP (x : List Tok × Int × Int) : Qry × Int × Int := if x.2.2 = 0 then (if (gramQ x.1).2.2 = 0 then (if checkQ (gramQ x.1).1 = 0 then ((gramQ x.1).1, 0, 0) else (Q0, 0, checkQ (gramQ x.1).1)) else gramQ x.1) else (Q0, x.2.1, x.2.2)
def rulQ (r : Rul) : Qry := ⟨[], 0, [], [r], []⟩
def parseR (x : List Tok × Int × Int) : Rul × Int × Int := if x.2.2 = 0 then (if (gramR x.1).2.2 = 0 then (if checkQ (rulQ (gramR x.1).1) = 0 then ((gramR x.1).1, 0, 0) else (R0, 0, checkQ (rulQ (gramR x.1).1))) else gramR x.1) else (R0, x.2.1, x.2.2)
end
end Go.Proofs.YtnbacdmlaedppaaGreatDoor
