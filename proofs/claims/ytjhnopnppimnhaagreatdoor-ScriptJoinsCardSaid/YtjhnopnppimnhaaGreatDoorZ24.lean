/-
  PARTS of a claim, merged by segs.py: Pg5, PgD, Pg6.
-/
import Derived.Test.YtjhnopnppimnhaaGreatDoorZ23
import Derived.Test.YtjhnopnppimnhaaGreatDoorZ22
import Derived.Deep.CutRange
import Derived.Deep.DeepCutAuto
namespace Go.Proofs.YtjhnopnppimnhaaGreatDoor

/-! ### Pg5 -/
section
open Go.RowKit

/-- A skip of one text, its slice just made. -/
theorem prs_skipn {bp c k : Nat} {A : Option Addr} {L : List Tok} {V : World} (h : PW bp A c L k V) {s : Str} (hs : s.length ≤ 100) {z : Bool} (hz : isT (tkL L k) s = z) {g : Nat} (hg : g = V.heap.size) :
    Calls Tryz.prog 86 #[.pointer (some ⟨bp, 0, none⟩), .slice (some ⟨g, 0, none⟩) 1 1] (V.alloc (.cells #[.string ⟨s.toArray⟩] 9)) (RetZ bp A c L k z V) := by
  subst hg
  refine (prs_skip1 (h.below (below_one V _)) V.heap.size (by simp) hs hz).mono ?_
  rintro e w' ⟨h1, h2, h3⟩
  exact ⟨h1, h2, (chg_below (below_one V _)).trans h3⟩
/-- The terms with both parentheses. -/
def openS (tk : Nat → Tok) (f i : Nat) : Out (List Trm) := if isT (tk i) sOpen = true then parenS tk f (i + 1) else .bad i
def RetTo (bp : Nat) (A : Option Addr) (c : Nat) (L : List Tok) (ba : Nat) (ng : Bool) (rl : ByteArray) (o : Out (List Trm)) (w : World) (e : Ending) (w' : World) : Prop := (match o with
  | .bad b => e = .returned (.bool false) ∧ PW bp A c L b w' ∧ ∃ X n d, w'.heap[ba]? = some (.cells #[.bool ng, .string rl, .slice X n d] 188)
  | .ok ts nx => e = .returned (.bool true) ∧ PW bp A c L nx w' ∧ ∃ u, w'.heap[ba]? = some (.cells #[.bool ng, .string rl, u] 188) ∧ w'.ownsRow w.heap.size 201 4 u ts.length (ts.flatMap cellsT)) ∧ Chg [bp, ba] w w'

section
variable {bp c k : Nat} {A : Option Addr} {L : List Tok} {w : World}
set_option maxRecDepth 100000 in
set_option maxHeartbeats 2000000 in
theorem prs_terms {ba : Nat} {ng : Bool} {rl : ByteArray} (hp : PW bp A c L k w) (hb : w.heap[ba]? = some (.cells #[.bool ng, .string rl, .slice none 0 0] 188)) (hpa : bp < ba) {o : Out (List Trm)} (ho : openS (tkL L) L.length k = o) :
    Calls Tryz.prog 145 #[.pointer (some ⟨bp, 0, none⟩), .pointer (some ⟨ba, 0, none⟩)] w (RetTo bp A c L ba ng rl o w) := by
  have hmf : ∀ (fn : Fn) (first cap : Array Value) (w : World), (Instr.makeFunc fn first cap).run Tryz.prog w = .ok (.func fn first cap) w := fun _ _ _ _ => rfl
  have hla := lt_of_block hb
  have HEn := hid hp.ended
  obtain ⟨W, hW⟩ : ∃ W, (w.alloc (.cells #[.pointer (some ⟨bp, 0, none⟩)] 111)).alloc (.cells #[.pointer (some ⟨ba, 0, none⟩)] 190) = W := ⟨_, rfl⟩
  have k0 : Below w.heap.size w W := by rw [← hW]; exact ((Below.refl _ _).alloc (Nat.le_refl _) _).alloc (by simp) _
  have hsz : W.heap.size = w.heap.size + 1 + 1 := by rw [← hW]; simp
  have hgp : W.heap[w.heap.size]? = some (.cells #[.pointer (some ⟨bp, 0, none⟩)] 111) := by rw [← hW, Below.heap_alloc _ _ _ (by simp)]; exact heap_alloc_new w _
  have hga : W.heap[w.heap.size + 1]? = some (.cells #[.pointer (some ⟨ba, 0, none⟩)] 190) := by rw [← hW]; have := heap_alloc_new (w.alloc (.cells #[.pointer (some ⟨bp, 0, none⟩)] 111)) (.cells #[.pointer (some ⟨ba, 0, none⟩)] 190); rwa [World.size_alloc] at this
  have hlay : Lay w bp ba w.heap.size (w.heap.size + 1) (w.heap.size + 1 + 1) := ⟨hpa, hla, Nat.le_refl _, by omega, by omega, by omega, by omega⟩
  have hr0 : ∀ j, TrR w bp ba w.heap.size (w.heap.size + 1) (w.heap.size + 1 + 1) ng rl j [] W := fun j => ⟨_, (k0.block ba hla).trans hb, World.ownsRow_nil _ _ _ _, hgp, hga, chg_below k0, by simp, by omega⟩
  have HPp := hid (hp.below k0)
  have HR0 := hid hr0
  have HLay := hid hlay
  have HW := hid hW
  obtain ⟨z, hz⟩ : ∃ z, isT (tkL L k) sOpen = z := ⟨_, rfl⟩
  have HS1 := hid (prs_skipn HPp.out (s := sOpen) (by decide) hz hsz.symm)
  unfold openS at ho
  rw [hz] at ho
  have hzk : z = true → k + 1 < L.length := fun h => hp.ended.isT (hz.trans h)
  -- a world behind a call that turns the parser's box alone
  have HOn := hid (fun (i j : Nat) (s : List Trm) (W1 W2 : World) (h : TrR w bp ba w.heap.size (w.heap.size + 1) (w.heap.size + 1 + 1) ng rl i s W1) (hc : Chg [bp] W1 W2) (hj : i ≤ j) => h.on hlay hc hj)
  clear hp hb hgp hga hr0 hlay hW hz
  cases z with
  | false =>
    rw [if_neg (by decide)] at ho
    subst ho
    have cp0 := box_cell (HR0.out 0).choose_spec.2.2.1 0
    go_enter Tryz.func145, Tryz.ntmps145
    go_wp2_with (first | rw [HW.out] | fail)
    refine HS1.out.mono ?_
    rintro e w2 ⟨rfl, p2, c2⟩
    have HF := hid (And.intro p2 (HOn.out k k _ _ _ (HR0.out k) c2 (Nat.le_refl _)))
    clear p2 c2 HS1 cp0
    go_wp2
    go_ret
    obtain ⟨p2, u, r1, r2, _, _, r5, _⟩ := HF.out
    obtain ⟨X, n, rfl⟩ := own_shape r2
    exact ⟨⟨rfl, p2, X, _, n, r1⟩, r5⟩
  | true =>
    have hk1 := hzk rfl
    rw [if_pos rfl] at ho
    unfold parenS at ho
    obtain ⟨y, hy⟩ : ∃ y, isT (tkL L (k + 1)) sShut = y := ⟨_, rfl⟩
    rw [hy] at ho
    have HS2 := hid (fun V (p : PW bp A c L (k + 1) V) => prs_skipn p (s := sShut) (by decide) hy rfl)
    have hyk : y = true → k + 2 < L.length := fun h => HEn.out.isT (hy.trans h)
    clear hzk hy
    cases y with
    | true =>
      rw [if_pos rfl] at ho
      subst ho
      have cp0 := box_cell (HR0.out 0).choose_spec.2.2.1 0
      go_enter Tryz.func145, Tryz.ntmps145
      go_wp2_with (first | rw [HW.out] | fail)
      refine HS1.out.mono ?_
      rintro e w2 ⟨rfl, p2, c2⟩
      have hR2 := HOn.out k (k + 1) _ _ _ (HR0.out k) c2 (by omega)
      have cp := box_cell hR2.choose_spec.2.2.1 0
      have hcl := lt_of_block hR2.choose_spec.2.2.1
      have HF := hid hR2
      have HS3 := hid (HS2.out w2 p2)
      clear p2 c2 HS1 HS2 hR2 cp0
      go_wp2_with fail
      refine HS3.out.mono ?_
      rintro e w3 ⟨rfl, p3, c3⟩
      have HF3 := hid (And.intro p3 (HOn.out (k + 1) (k + 1) _ _ _ HF.out c3 (Nat.le_refl _)))
      clear p3 c3 HS3 HF cp hcl
      go_wp2
      go_ret
      obtain ⟨p2, u, r1, r2, _, _, r5, _⟩ := HF3.out
      exact ⟨⟨rfl, p2, u, r1, ren_mono r2 (by omega)⟩, r5⟩
    | false =>
      rw [if_neg (by decide), ← listS_terms] at ho
      obtain ⟨q, hq⟩ : ∃ q, listS (tkL L) sComma (termStep (tkL L)) L.length (k + 1) [] = q := ⟨_, rfl⟩
      rw [hq] at ho
      have HL := hid (fun V (p : PW bp A c L (k + 1) V) (r : TrR w bp ba w.heap.size (w.heap.size + 1) (w.heap.size + 1 + 1) ng rl (k + 1) [] V) =>
        prs_list (termStep (tkL L)) (TrR w bp ba w.heap.size (w.heap.size + 1) (w.heap.size + 1 + 1) ng rl) (TrB w bp ba ng rl) (fun _ _ => rfl) (by decide) (fun i nx a b e => termStep_nx HEn.out e) (fun i j s W1 W2 h hc hj => HOn.out i j s W1 W2 h hc hj) (fun s i V2 p2 r2 => prs_term1 HLay.out p2 r2) p r hq)
      cases q with
      | bad b =>
        have ho2 : o = .bad b := ho.symm
        subst ho2
        have cp0 := box_cell (HR0.out 0).choose_spec.2.2.1 0
        go_enter Tryz.func145, Tryz.ntmps145
        go_wp2_with (first | rw [HW.out] | fail)
        refine HS1.out.mono ?_
        rintro e w2 ⟨rfl, p2, c2⟩
        have hR2 := HOn.out k (k + 1) _ _ _ (HR0.out k) c2 (by omega)
        have cp := box_cell hR2.choose_spec.2.2.1 0
        have hcl := lt_of_block hR2.choose_spec.2.2.1
        have HF := hid hR2
        have HS3 := hid (HS2.out w2 p2)
        clear p2 c2 HS1 HS2 hR2 cp0
        go_wp2_with fail
        refine HS3.out.mono ?_
        rintro e w3 ⟨rfl, p3, c3⟩
        have hR3 := HOn.out (k + 1) (k + 1) _ _ _ HF.out c3 (Nat.le_refl _)
        have cp3 := box_cell hR3.choose_spec.2.2.1 0
        have HL3 := hid (HL.out w3 p3 hR3)
        clear p3 c3 HS3 HF cp hcl HL hR3
        go_wp2_with fail
        refine HL3.out.mono ?_
        rintro e w4 ⟨rfl, p4, r4⟩
        have HF4 := hid (And.intro p4 r4)
        clear p4 r4 HL3 cp3
        go_wp2
        go_ret
        obtain ⟨p2, X, n, d, r1, r5⟩ := HF4.out
        exact ⟨⟨rfl, p2, X, n, d, r1⟩, r5⟩
      | ok ts nx =>
        obtain ⟨v, hv⟩ : ∃ v, isT (tkL L nx) sShut = v := ⟨_, rfl⟩
        have HS4 := hid (fun V (p : PW bp A c L nx V) => prs_skipn p (s := sShut) (by decide) hv rfl)
        have ho2 : (if v = true then Out.ok ts (nx + 1) else .bad nx) = o := by rw [← ho, ← hv]; rfl
        have HO := hid ho2
        clear ho ho2 hq hv
        have cp0 := box_cell (HR0.out 0).choose_spec.2.2.1 0
        go_enter Tryz.func145, Tryz.ntmps145
        go_wp2_with (first | rw [HW.out] | fail)
        refine HS1.out.mono ?_
        rintro e w2 ⟨rfl, p2, c2⟩
        have hR2 := HOn.out k (k + 1) _ _ _ (HR0.out k) c2 (by omega)
        have cp := box_cell hR2.choose_spec.2.2.1 0
        have hcl := lt_of_block hR2.choose_spec.2.2.1
        have HF := hid hR2
        have HS3 := hid (HS2.out w2 p2)
        clear p2 c2 HS1 HS2 hR2 cp0
        go_wp2_with fail
        refine HS3.out.mono ?_
        rintro e w3 ⟨rfl, p3, c3⟩
        have hR3 := HOn.out (k + 1) (k + 1) _ _ _ HF.out c3 (Nat.le_refl _)
        have cp3 := box_cell hR3.choose_spec.2.2.1 0
        have HL3 := hid (HL.out w3 p3 hR3)
        clear p3 c3 HS3 HF cp hcl HL hR3
        go_wp2_with fail
        refine HL3.out.mono ?_
        rintro e w4 ⟨rfl, p4, r4⟩
        have HF4 := hid r4
        have cp4 := box_cell r4.choose_spec.2.2.1 0
        have hcl4 := lt_of_block r4.choose_spec.2.2.1
        have HS5 := hid (HS4.out w4 p4)
        clear p4 r4 HL3 cp3 HS4
        go_wp2_with fail
        refine HS5.out.mono ?_
        rintro e w5 ⟨rfl, p5, c5⟩
        have hR5 := HOn.out nx nx _ _ _ HF4.out c5 (Nat.le_refl _)
        have HF5 := hid (And.intro p5 hR5)
        clear p5 c5 HS5 HF4 cp4 hcl4 hR5
        have hO := HO.out
        clear HO
        cases v with
        | true =>
          rw [if_pos rfl] at hO
          subst hO
          go_wp2
          go_ret
          obtain ⟨p2, u, r1, r2, _, _, r5, _⟩ := HF5.out
          exact ⟨⟨rfl, p2, u, r1, ren_mono r2 (by omega)⟩, r5⟩
        | false =>
          rw [if_neg (by decide)] at hO
          subst hO
          go_wp2
          go_ret
          obtain ⟨p2, u, r1, r2, _, _, r5, _⟩ := HF5.out
          obtain ⟨X, n, rfl⟩ := own_shape r2
          exact ⟨⟨rfl, p2, X, _, n, r1⟩, r5⟩
end
end

/-! ### PgD -/
section
open Go.RowKit

theorem aggG_keeps {tk : Nat → Tok} {i nx : Nat} {q q' : Qry} (e : aggG tk i q = .ok q' nx) : q'.head = q.head := by
  unfold aggG at e
  split at e
  · injection e with e _; rw [← e]
  · split at e
    · cases e
    · split at e
      · cases e
      · injection e with e _; rw [← e]
/-- What head answers. -/
def RetHe (bp : Nat) (A : Option Addr) (c : Nat) (L : List Tok) (bq : Nat) (o : Out Qry) (w : World) (e : Ending) (w' : World) : Prop := (match o with
  | .bad b => e = .returned (.bool false) ∧ PW bp A c L b w'
  | .ok q nx => e = .returned (.bool true) ∧ PW bp A c L nx w' ∧ ∃ H ch, w'.heap[bq]? = some (.cells (qryA (.slice H q.head.length ch) q.agg ⟨q.aggVar.toArray⟩ (.slice none 0 0) (.slice none 0 0)) 95) ∧ w'.ownsRow w.heap.size 9 1 (.slice H q.head.length ch) q.head.length (q.head.map nmV)) ∧ Chg [bp, bq] w w'
section
variable {bp c : Nat} {A : Option Addr} {L : List Tok} {w : World}
set_option maxRecDepth 100000 in
set_option maxHeartbeats 4000000 in
theorem prs_head (hp : PW bp A c L 0 w) {bq : Nat} (hb : w.heap[bq]? = some (.cells (qryA (.slice none 0 0) 0 ⟨#[]⟩ (.slice none 0 0) (.slice none 0 0)) 95)) (hpq : bp < bq) {o : Out Qry} (ho : headG (tkL L) L.length = o) :
    Calls Tryz.prog 82 #[.pointer (some ⟨bp, 0, none⟩), .pointer (some ⟨bq, 0, none⟩)] w (RetHe bp A c L bq o w) := by
  have hmf : ∀ (fn : Fn) (first cap : Array Value) (w : World), (Instr.makeFunc fn first cap).run Tryz.prog w = .ok (.func fn first cap) w := fun _ _ _ _ => rfl
  have hlb := lt_of_block hb
  have hf := hp.few
  obtain ⟨W, hW⟩ : ∃ W, (w.alloc (.cells #[.pointer (some ⟨bp, 0, none⟩)] 111)).alloc (.cells #[.pointer (some ⟨bq, 0, none⟩)] 115) = W := ⟨_, rfl⟩
  have k0 : Below w.heap.size w W := by rw [← hW]; exact ((Below.refl _ _).alloc (Nat.le_refl _) _).alloc (by simp) _
  have hsz : W.heap.size = w.heap.size + 1 + 1 := by rw [← hW]; simp
  have hgp : W.heap[w.heap.size]? = some (.cells #[.pointer (some ⟨bp, 0, none⟩)] 111) := by rw [← hW, Below.heap_alloc _ _ _ (by simp)]; exact heap_alloc_new w _
  have hgq : W.heap[w.heap.size + 1]? = some (.cells #[.pointer (some ⟨bq, 0, none⟩)] 115) := by rw [← hW]; have := heap_alloc_new (w.alloc (.cells #[.pointer (some ⟨bp, 0, none⟩)] 111)) (.cells #[.pointer (some ⟨bq, 0, none⟩)] 115); rwa [World.size_alloc] at this
  have hlay : LayQ W bp bq w.heap.size (w.heap.size + 1) W.heap.size := ⟨hpq, by omega, Nat.le_refl _, hgp, hgq, ⟨by omega, by omega⟩, ⟨by omega, by omega⟩⟩
  have hE := hp.ended
  have HEn := hid hE
  have hpW := hp.below k0
  have HPW := hid hpW
  have HLay := hid hlay
  have hbW := (k0.block bq hlb).trans hb
  have HBW := hid hbW
  have K0 := hid (chg_below (S := [bp, bq]) k0)
  have HW := hid hW
  have cp := box_cell hgp 0
  have hlp := hp.block_lt
  -- the boxes in a world behind
  have HBx := hid (fun (V : World) (h : Chg [bp, bq] W V) => (show V.heap[w.heap.size]? = some (.cells #[.pointer (some ⟨bp, 0, none⟩)] 111) ∧ V.heap[w.heap.size + 1]? = some (.cells #[.pointer (some ⟨bq, 0, none⟩)] 115) ∧ W.heap.size ≤ V.heap.size from
    ⟨(h.block _ (by omega) (by simp; omega)).trans hgp, (h.block _ (by omega) (by simp; omega)).trans hgq, h.size⟩))
  have HT0 := hid (prs_token hpW)
  unfold headG at ho
  by_cases hk : (tkL L 0).k = 1
  · by_cases ht : (tkL L 0).t = sAns
    · rw [if_neg (by rw [hk, ht]; simp)] at ho
      have hn1 := hE.one hk
      obtain ⟨z1, hz1⟩ : ∃ z, isT (tkL L 1) sOpen = z := ⟨_, rfl⟩
      rw [hz1] at ho
      have HS1 := hid (fun V (p : PW bp A c L 1 V) g (hg : g = V.heap.size) => prs_skipn p (s := sOpen) (by decide) hz1 hg)
      have HTk := hid (fun V (p : PW bp A c L 2 V) => prs_token p)
      have hn2 : z1 = true → 2 < L.length := fun h => hE.isT (hz1.trans h)
      have hk' : ((tkL L 0).k != 1) = false := by simp [hk]
      have HO := hid ho
      rw [ht] at HT0
      clear hp hb hgp hgq hlay hE hpW hbW ho hW hz1 ht hk
      generalize tkL L 0 = t at *
      go_enter Tryz.func82, Tryz.ntmps82
      go_wp2_with (first | rw [HW.out] | fail)
      refine HT0.out.mono ?_
      rintro e w1 ⟨rfl, b1⟩
      have kt := b1.trans ((below_one w1 (tokO ⟨t.k, sAns, t.v, t.a⟩)).mono b1.size)
      have p1 := HPW.out.below kt
      have cp1 := cell_keep kt cp
      have c1 := p1.cells.2
      have f1 := box_free p1.box 1
      have lp1 := p1.block_lt
      have P2 := hid (p1.step hn1)
      have C2 := hid ((chg_below (S := [bp]) kt).set (b := bp) (.inl (by simp)) 1 (.int .i64 ((1 : Nat) : Int)))
      clear b1 HT0 p1 cp kt
      go_wp2_with fail
      refine (HS1.out _ P2.out _ (by simp [World.setCell])).mono ?_
      rintro e w3 ⟨rfl, p3, c3⟩
      have C3 := hid (C2.out.trans c3)
      have P3 := hid p3
      clear p3 c3 C2 P2 HS1 c1 f1 lp1 cp1
      cases z1 with
      | false =>
        have hO := HO.out
        rw [if_pos rfl] at hO
        subst hO
        clear HO HTk
        go_wp2
        go_ret
        exact ⟨⟨rfl, P3.out⟩, K0.out.trans (C3.out.mono (fun s hs => by simp at hs; simp [hs]))⟩
      | true =>
        have hO := HO.out
        rw [if_neg (by decide)] at hO
        have HO2 := hid hO
        have hn3 := hn2 rfl
        have HT2 := hid (HTk.out w3 P3.out)
        obtain ⟨g1, g2, g3⟩ := HBx.out w3 (C3.out.mono (fun s hs => by simp at hs; simp [hs]))
        have cp3 := box_cell g1 0
        clear HO HTk hO g1 g2
        have F0 := fun t2 : Tok => tok_kind t2.k t2.v.k t2.v.n t2.a ⟨t2.t.toArray⟩ t2.v.s
        generalize tkL L 2 = t2 at *
        go_wp2_with fail
        refine HT2.out.mono ?_
        rintro e w4 ⟨rfl, b4⟩
        have P4 := hid (P3.out.below b4)
        have C4 := hid (C3.out.trans (chg_below b4))
        clear P3 C3 HT2 cp3 b4
        go_upto_if 31 with fail
        go_cut [] (fun wx => ∃ (j : Nat) (hs : List Str) (H : Option Addr) (ch : Nat), Hid (PW bp A c L j wx ∧ wx.heap[bq]? = some (.cells (qryA (.slice H hs.length ch) 0 ⟨#[]⟩ (.slice none 0 0) (.slice none 0 0)) 95) ∧ wx.ownsRow W.heap.size 9 1 (.slice H hs.length ch) hs.length (hs.map nmV) ∧ Chg [bp, bq] W wx ∧ semiS (tkL L) j ⟨hs, 0, [], [], []⟩ = o))
        case first =>
          have hB4 := (C4.out.block bq (by omega) (by simp; omega)).trans HBW.out
          have hC4 := C4.out.mono (T := [bp, bq]) (fun s hs => by simp at hs; simp [hs])
          obtain ⟨g1, g2, g4⟩ := HBx.out w4 hC4
          have cp4 := box_cell g1 0
          by_cases hk2 : t2.k = 1
          · have d2 : (t2.k == 1) = true := by simpa using hk2
            have hO := HO2.out
            rw [if_pos hk2] at hO
            obtain ⟨r, hr⟩ : ∃ r, namesS (tkL L) L.length 2 [] = r := ⟨_, rfl⟩
            rw [hr] at hO
            have HO3 := hid hO
            rw [← listS_names] at hr
            have HL := hid (prs_list (nameStep (tkL L)) (PgHR W bp bq W.heap.size (.int .i64 0) (.string ⟨#[]⟩) (.slice none 0 0) (.slice none 0 0)) (QuB W bp bq) (fun _ _ => rfl) (by decide) (fun i nx a b e => nameStep_nx HEn.out e) (fun i j s W1 W2 h hc hj => h.on HLay.out hc hj)
              (fun s i V2 p2 r2 => prs_head1 HLay.out p2 r2) P4.out ⟨_, hB4, World.ownsRow_nil _ _ _ _, hC4, by simp, g4⟩ hr)
            clear HO2 hO hr hk2 hB4 hC4 g1 g2 C4 P4
            cases r with
            | bad b =>
              have hO := HO3.out
              simp only at hO
              subst hO
              go_wp2_with fail
              refine HL.out.mono ?_
              rintro e w5 ⟨rfl, p5, r5⟩
              have HF := hid (And.intro p5 r5)
              clear p5 r5 HL cp4 HO3
              go_wp2
              go_ret
              exact ⟨⟨rfl, HF.out.1⟩, K0.out.trans HF.out.2⟩
            | ok hs nx =>
              go_wp2_with fail
              refine HL.out.mono ?_
              rintro e w5 ⟨rfl, p5, u, h1, h2, h3, h4, h5⟩
              obtain ⟨H, ch, rfl⟩ := own_shape h2
              have HF := hid (And.intro p5 (And.intro h1 (And.intro h2 h3)))
              clear p5 h1 h2 h3 HL cp4
              go_wp2_with fail
              go_meet
              exact ⟨nx, hs, H, ch, hid ⟨HF.out.1, HF.out.2.1, HF.out.2.2.1, HF.out.2.2.2, HO3.out⟩⟩
          · have d2 : (t2.k == 1) = false := by simpa using hk2
            have hO := HO2.out
            rw [if_neg hk2] at hO
            have HF := hid (And.intro P4.out (And.intro hB4 (And.intro hC4 hO)))
            clear HO2 hO hk2 hB4 hC4 g1 g2 C4 P4
            go_wp2_with fail
            go_meet
            exact ⟨2, [], none, 0, hid ⟨HF.out.1, HF.out.2.1, World.ownsRow_nil _ _ _ _, HF.out.2.2.1, HF.out.2.2.2⟩⟩
        case rest =>
          obtain ⟨j, hs, H, ch, HFc⟩ := hcut
          obtain ⟨w5, rfl⟩ : ∃ w5 : World, w5 = wc := ⟨_, rfl⟩
          clear HO2 C4 P4 F0 HPW HBW
          obtain ⟨p5, b5, r5, c5, hO⟩ := HFc.out
          obtain ⟨z2, hz2⟩ : ∃ z, isT (tkL L j) sSemi = z := ⟨_, rfl⟩
          have HS2 := hid (prs_skipn p5 (s := sSemi) (by decide) hz2 rfl)
          obtain ⟨g1, g2, g4⟩ := HBx.out w5 c5
          have cp4 := box_cell g1 0
          have lp4 := lt_of_block g1
          unfold semiS at hO
          rw [hz2] at hO
          have HO2 := hid hO
          have HF5 := hid (And.intro p5 (And.intro b5 (And.intro r5 c5)))
          clear p5 b5 r5 c5 hO hz2 g1 g2 HFc
          go_wp2_with fail
          refine HS2.out.mono ?_
          rintro e w6 ⟨rfl, p6, c6⟩
          have HF6 := hid (show PW bp A c L (if z2 = true then j + 1 else j) w6 ∧ w6.heap[bq]? = some (.cells (qryA (.slice H hs.length ch) 0 ⟨#[]⟩ (.slice none 0 0) (.slice none 0 0)) 95) ∧ w6.ownsRow W.heap.size 9 1 (.slice H hs.length ch) hs.length (hs.map nmV) ∧ Chg [bp, bq] W w6 from by
            obtain ⟨_, b5, r5, c5⟩ := HF5.out
            exact ⟨p6, (c6.block bq (lt_of_block b5) (by simp; omega)).trans b5, c6.ownS r5 (fun s hs => by simp at hs; omega), c5.trans (c6.mono (fun s hs => by simp at hs; simp [hs]))⟩)
          obtain ⟨g1, g2, g4⟩ := HBx.out w6 HF6.out.2.2.2
          have cp6 := box_cell g1 0
          have cq6 := box_cell g2 0
          clear p6 c6 HS2 cp4 lp4 HF5 g1 g2
          have hO := HO2.out
          clear HO2
          cases z2 with
          | false =>
            rw [if_neg (by decide)] at hO
            have HF := HF6
            simp only [Bool.false_eq_true, if_false] at HF
            clear HF6 cp6 cq6
            obtain ⟨z3, hz3⟩ : ∃ z, isT (tkL L j) sShut = z := ⟨_, rfl⟩
            obtain ⟨z4, hz4⟩ : ∃ z, isT (tkL L (j + 1)) sIf = z := ⟨_, rfl⟩
            have hO3 : (if z3 = true then (if z4 = true then Out.ok ⟨hs, 0, [], [], []⟩ (j + 2) else .bad (j + 1)) else .bad j) = o := by rw [← hO, ← hz3, ← hz4]; rfl
            have HO3 := hid hO3
            have HS4 := hid (fun V (p : PW bp A c L (j + 1) V) => prs_skipn p (s := sIf) (by decide) hz4 rfl)
            have HS3 := hid (prs_skipn HF.out.1 (s := sShut) (by decide) hz3 rfl)
            obtain ⟨g1, g2, g3⟩ := HBx.out w6 HF.out.2.2.2
            have cp4 := box_cell g1 0
            have lp4 := lt_of_block g1
            clear hO hO3 hz3 hz4 g1 g2
            go_wp2_with fail
            refine HS3.out.mono ?_
            rintro e w8 ⟨rfl, p8, c8⟩
            have hO4 := HO3.out
            have C8 := hid c8
            have P8 := hid p8
            obtain ⟨g1, g2, g4⟩ := HBx.out w8 (HF.out.2.2.2.trans (c8.mono (fun s hs => by simp at hs; simp [hs])))
            have cp8 := box_cell g1 0
            clear p8 c8 HS3 cp4 lp4 g1 g2 HO3
            cases z3 with
            | false =>
              rw [if_neg (by decide)] at hO4
              subst hO4
              go_wp2
              go_ret
              exact ⟨⟨rfl, P8.out⟩, K0.out.trans (HF.out.2.2.2.trans (C8.out.mono (fun s hs => by simp at hs; simp [hs])))⟩
            | true =>
              rw [if_pos rfl] at hO4
              have HO4 := hid hO4
              have HS5 := hid (HS4.out w8 P8.out)
              clear hO4 HS4
              go_wp2_with fail
              refine HS5.out.mono ?_
              rintro e w9 ⟨rfl, p9, c9⟩
              have hO5 := HO4.out
              have HG := hid (And.intro p9 (C8.out.trans c9))
              clear p9 c9 HS5 cp8 HO4 C8 P8
              cases z4 with
              | true =>
                rw [if_pos rfl] at hO5
                subst hO5
                go_wp2
                go_ret
                obtain ⟨p9, c9⟩ := HG.out
                obtain ⟨_, b7, r7, c7⟩ := HF.out
                have b9 := (c9.block bq (lt_of_block b7) (by simp; omega)).trans b7
                have r9 := c9.ownS r7 (fun s hs => by simp at hs; omega)
                exact ⟨⟨rfl, p9, H, ch, b9, ren_mono r9 (by omega)⟩, K0.out.trans (c7.trans (c9.mono (fun s hs => by simp at hs; simp [hs])))⟩
              | false =>
                rw [if_neg (by decide)] at hO5
                subst hO5
                go_wp2
                go_ret
                obtain ⟨p9, c9⟩ := HG.out
                exact ⟨⟨rfl, p9⟩, K0.out.trans (HF.out.2.2.2.trans (c9.mono (fun s hs => by simp at hs; simp [hs])))⟩
          | true =>
            rw [if_pos rfl] at hO
            simp only [if_true] at HF6
            obtain ⟨r, hr⟩ : ∃ r, aggG (tkL L) (j + 1) ⟨hs, 0, [], [], []⟩ = r := ⟨_, rfl⟩
            rw [hr] at hO
            have HA := hid (prs_agg HF6.out.1 HF6.out.2.1 hpq hr)
            cases r with
            | bad b =>
              simp only at hO
              subst hO
              clear hr
              go_wp2_with fail
              refine HA.out.mono ?_
              rintro e w7 ⟨⟨rfl, p7⟩, c7⟩
              have HG := hid (And.intro p7 (HF6.out.2.2.2.trans c7))
              clear p7 c7 HA cp6 cq6 HF6
              go_wp2
              go_ret
              exact ⟨⟨rfl, HG.out.1⟩, K0.out.trans HG.out.2⟩
            | ok q nx =>
              simp only at hO
              have hqh := aggG_keeps hr
              simp only at hqh
              clear hr
              go_wp2_with fail
              refine HA.out.mono ?_
              rintro e w7 ⟨⟨rfl, p7, b7⟩, c7⟩
              have HF := hid (show PW bp A c L nx w7 ∧ w7.heap[bq]? = some (.cells (qryA (.slice H q.head.length ch) q.agg ⟨q.aggVar.toArray⟩ (.slice none 0 0) (.slice none 0 0)) 95) ∧ w7.ownsRow W.heap.size 9 1 (.slice H q.head.length ch) q.head.length (q.head.map nmV) ∧ Chg [bp, bq] W w7 from by
                rw [hqh]
                exact ⟨p7, b7, c7.ownS HF6.out.2.2.1 (fun s hs => by simp at hs; omega), HF6.out.2.2.2.trans c7⟩)
              clear p7 c7 b7 HA cp6 cq6 HF6 hqh
              obtain ⟨z3, hz3⟩ : ∃ z, isT (tkL L nx) sShut = z := ⟨_, rfl⟩
              obtain ⟨z4, hz4⟩ : ∃ z, isT (tkL L (nx + 1)) sIf = z := ⟨_, rfl⟩
              have hO3 : (if z3 = true then (if z4 = true then Out.ok q (nx + 2) else .bad (nx + 1)) else .bad nx) = o := by rw [← hO, ← hz3, ← hz4]; rfl
              have HO3 := hid hO3
              have HS4 := hid (fun V (p : PW bp A c L (nx + 1) V) => prs_skipn p (s := sIf) (by decide) hz4 rfl)
              have HS3 := hid (prs_skipn HF.out.1 (s := sShut) (by decide) hz3 rfl)
              obtain ⟨g1, g2, g3⟩ := HBx.out w7 HF.out.2.2.2
              have cp4 := box_cell g1 0
              have lp4 := lt_of_block g1
              clear hO hO3 hz3 hz4 g1 g2
              go_wp2_with fail
              refine HS3.out.mono ?_
              rintro e w8 ⟨rfl, p8, c8⟩
              have hO4 := HO3.out
              have C8 := hid c8
              have P8 := hid p8
              obtain ⟨g1, g2, g4⟩ := HBx.out w8 (HF.out.2.2.2.trans (c8.mono (fun s hs => by simp at hs; simp [hs])))
              have cp8 := box_cell g1 0
              clear p8 c8 HS3 cp4 lp4 g1 g2 HO3
              cases z3 with
              | false =>
                rw [if_neg (by decide)] at hO4
                subst hO4
                go_wp2
                go_ret
                exact ⟨⟨rfl, P8.out⟩, K0.out.trans (HF.out.2.2.2.trans (C8.out.mono (fun s hs => by simp at hs; simp [hs])))⟩
              | true =>
                rw [if_pos rfl] at hO4
                have HO4 := hid hO4
                have HS5 := hid (HS4.out w8 P8.out)
                clear hO4 HS4
                go_wp2_with fail
                refine HS5.out.mono ?_
                rintro e w9 ⟨rfl, p9, c9⟩
                have hO5 := HO4.out
                have HG := hid (And.intro p9 (C8.out.trans c9))
                clear p9 c9 HS5 cp8 HO4 C8 P8
                cases z4 with
                | true =>
                  rw [if_pos rfl] at hO5
                  subst hO5
                  go_wp2
                  go_ret
                  obtain ⟨p9, c9⟩ := HG.out
                  obtain ⟨_, b7, r7, c7⟩ := HF.out
                  have b9 := (c9.block bq (lt_of_block b7) (by simp; omega)).trans b7
                  have r9 := c9.ownS r7 (fun s hs => by simp at hs; omega)
                  exact ⟨⟨rfl, p9, H, ch, b9, ren_mono r9 (by omega)⟩, K0.out.trans (c7.trans (c9.mono (fun s hs => by simp at hs; simp [hs])))⟩
                | false =>
                  rw [if_neg (by decide)] at hO5
                  subst hO5
                  go_wp2
                  go_ret
                  obtain ⟨p9, c9⟩ := HG.out
                  exact ⟨⟨rfl, p9⟩, K0.out.trans (HF.out.2.2.2.trans (c9.mono (fun s hs => by simp at hs; simp [hs])))⟩
    · -- no ans
      have hO : o = .bad 0 := by rw [← ho]; exact if_pos (.inr ht)
      subst hO
      have hk' : ((tkL L 0).k != 1) = false := by simp [hk]
      have dt : (!((tkL L 0).t == [97, 110, 115])) = true := by simpa [sAns] using ht
      clear hp hb hgp hgq hlay hE hpW hbW ho hW ht hk HBx HBW HLay HEn
      generalize tkL L 0 = t at *
      go_enter Tryz.func82, Tryz.ntmps82
      go_wp2_with (first | rw [HW.out] | fail)
      refine HT0.out.mono ?_
      rintro e w1 ⟨rfl, b1⟩
      have kt := b1.trans ((below_one w1 (tokO t)).mono b1.size)
      have HF := hid (And.intro (HPW.out.below kt) (chg_below (S := [bp, bq]) kt))
      clear b1 HT0 cp kt HPW
      go_wp2
      go_ret
      exact ⟨⟨rfl, HF.out.1⟩, K0.out.trans HF.out.2⟩
  · have hO : o = .bad 0 := by rw [← ho]; exact if_pos (.inl hk)
    subst hO
    have hk' : ((tkL L 0).k != 1) = true := by simpa using hk
    clear hp hb hgp hgq hlay hE hpW hbW ho hW hk HBx HBW HLay HEn
    generalize tkL L 0 = t at *
    go_enter Tryz.func82, Tryz.ntmps82
    go_wp2_with (first | rw [HW.out] | fail)
    refine HT0.out.mono ?_
    rintro e w1 ⟨rfl, b1⟩
    have kt := b1.trans ((below_one w1 (tokO t)).mono b1.size)
    have HF := hid (And.intro (HPW.out.below kt) (chg_below (S := [bp, bq]) kt))
    clear b1 HT0 cp kt HPW
    go_wp2
    go_ret
    exact ⟨⟨rfl, HF.out.1⟩, K0.out.trans HF.out.2⟩
end
end

/-! ### Pg6 -/
section
open Go.RowKit

abbrev cndA (v : ByteArray) (o k n : Int) (s : ByteArray) : Array Value := #[.string v, .int .i64 o, .int .i64 k, .int .i64 n, .string s]
def opsB : List ByteArray := [⟨#[61]⟩, ⟨#[33, 61]⟩, ⟨#[60]⟩, ⟨#[60, 61]⟩, ⟨#[62]⟩, ⟨#[62, 61]⟩]
theorem any_ops (t : Tok) : isAny t opsB = (opT t).isSome := by
  have e : isAny t opsB = opsL.any (fun s => isT t s) := by
    unfold isAny isT
    by_cases h : (t.k == 4 || t.k == 5) = true
    · rw [h, Bool.true_and]
      have key : Lib.containsS opsB ⟨t.t.toArray⟩ = true ↔ (opsL.any fun s => true && t.t == s) = true := by
        rw [Lib.containsS_iff]
        simp only [opsB, opsL, List.mem_cons, ByteArray.mk.injEq, List.not_mem_nil, or_false, Bool.true_and, List.any_cons, List.any_nil, Bool.or_false, Bool.or_eq_true, beq_iff_eq]
        constructor
        · rintro (h | h | h | h | h | h) <;> have h2 := congrArg Array.toList h <;> simp at h2 <;> simp [h2]
        · rintro (h | h | h | h | h | h) <;> simp [h]
      exact Bool.eq_iff_iff.2 key
    · have h' : (t.k == 4 || t.k == 5) = false := by simpa using h
      rw [h']; simp
  rw [e]
  unfold opT
  rw [List.findIdx?_isSome]
def RetOp (bp : Nat) (A : Option Addr) (c : Nat) (L : List Tok) (k bc : Nat) (v : ByteArray) (x : Option Nat) (w : World) (e : Ending) (w' : World) : Prop := (match x with
  | none => e = .returned (.bool false) ∧ PW bp A c L k w' ∧ w'.heap[bc]? = some (.cells (cndA v 0 0 0 ⟨#[]⟩) 192)
  | some o => e = .returned (.bool true) ∧ PW bp A c L (k + 1) w' ∧ w'.heap[bc]? = some (.cells (cndA v o 0 0 ⟨#[]⟩) 192)) ∧ Chg [bp, bc] w w'
theorem opT_text {t : Tok} {o : Nat} (h : opT t = some o) : o < 6 ∧ t.t = opsL.getD o [] := by
  unfold opT at h
  obtain ⟨h1, h2, _⟩ := List.findIdx?_eq_some_iff_getElem.1 h
  refine ⟨h1, ?_⟩
  unfold isT at h2
  simp only [Bool.and_eq_true, beq_iff_eq] at h2
  rw [List.getD_eq_getElem?_getD, List.getElem?_eq_getElem h1]
  exact h2.2
section
variable {bp c k : Nat} {A : Option Addr} {L : List Tok} {w : World}
set_option maxRecDepth 100000 in
set_option maxHeartbeats 2000000 in
theorem prs_op (h : PW bp A c L k w) {bc : Nat} {v : ByteArray} (hb : w.heap[bc]? = some (.cells (cndA v 0 0 0 ⟨#[]⟩) 192)) (hne : bp < bc) {x : Option Nat} (hx : opT (tkL L k) = x) :
    Calls Tryz.prog 146 #[.pointer (some ⟨bp, 0, none⟩), .pointer (some ⟨bc, 0, none⟩)] w (RetOp bp A c L k bc v x w) := by
  have k0 := below_one w (.cells #[.string ⟨#[61]⟩, .string ⟨#[33, 61]⟩, .string ⟨#[60]⟩, .string ⟨#[60, 61]⟩, .string ⟨#[62]⟩, .string ⟨#[62, 61]⟩] 9)
  have hz : isAny (tkL L k) opsB = x.isSome := by rw [any_ops, hx]
  have hnew := heap_alloc_new w (.cells #[.string ⟨#[61]⟩, .string ⟨#[33, 61]⟩, .string ⟨#[60]⟩, .string ⟨#[60, 61]⟩, .string ⟨#[62]⟩, .string ⟨#[62, 61]⟩] 9)
  have hT : TxtsAt (w.alloc (.cells #[.string ⟨#[61]⟩, .string ⟨#[33, 61]⟩, .string ⟨#[60]⟩, .string ⟨#[60, 61]⟩, .string ⟨#[62]⟩, .string ⟨#[62, 61]⟩] 9)) w.heap.size 0 opsB := fun j hj => by
    rw [Nat.zero_add, box_cell hnew]
    have : j = 0 ∨ j = 1 ∨ j = 2 ∨ j = 3 ∨ j = 4 ∨ j = 5 := by simp [opsB] at hj; omega
    rcases this with rfl | rfl | rfl | rfl | rfl | rfl <;> rfl
  have H1 := hid (prs_take (m := 6) (h.below k0) hT rfl (by decide) hz)
  have hl := lt_of_block hb
  have HB := hid (fun W' (c : Chg [bp] w W') => (c.block bc hl (by simp; omega)).trans hb)
  have K0 := hid (chg_below (S := [bp]) k0)
  clear h hb hz hnew hT
  cases x with
  | none =>
    simp only [Option.isSome_none] at H1
    clear hx
    go_enter Tryz.func146, Tryz.ntmps146
    go_wp2_with fail
    refine H1.out.mono ?_
    rintro e w1 ⟨rfl, p1, c1⟩
    have HF := hid (And.intro p1 (And.intro (HB.out w1 (K0.out.trans c1)) (K0.out.trans c1)))
    clear p1 c1 H1 HB K0
    go_wp2
    go_ret
    exact ⟨⟨rfl, HF.out.1, HF.out.2.1⟩, HF.out.2.2.mono (fun s hs => by simp at hs; simp [hs])⟩
  | some o =>
    simp only [Option.isSome_some] at H1
    obtain ⟨ho, ht⟩ := opT_text hx
    unfold RetK at H1
    rw [ht] at H1
    clear hx ht
    have : o = 0 ∨ o = 1 ∨ o = 2 ∨ o = 3 ∨ o = 4 ∨ o = 5 := by omega
    clear ho
    rcases this with rfl | rfl | rfl | rfl | rfl | rfl <;>
    · go_enter Tryz.func146, Tryz.ntmps146
      go_wp2_with fail
      refine H1.out.mono ?_
      rintro e w1 ⟨rfl, p1, c1⟩
      have b1 := HB.out w1 (K0.out.trans c1)
      have e1 := box_cell b1 1
      have f1 := box_free b1 1
      have l1 := lt_of_block b1
      have HF := hid (And.intro p1 (And.intro b1 (K0.out.trans c1)))
      clear p1 c1 b1 H1 HB K0
      go_wp2
      go_ret
      obtain ⟨p1, b1, c1⟩ := HF.out
      exact ⟨⟨rfl, p1.chg ((Chg.refl [bc] w1).set (.inl (by simp)) 1 _) (fun s hs => by simp at hs; omega), heap_setCell_same w1 bc 1 _ _ _ b1⟩, (c1.mono (fun s hs => by simp at hs; simp [hs])).set (.inl (by simp)) 1 _⟩
end
end
end Go.Proofs.YtjhnopnppimnhaaGreatDoor
