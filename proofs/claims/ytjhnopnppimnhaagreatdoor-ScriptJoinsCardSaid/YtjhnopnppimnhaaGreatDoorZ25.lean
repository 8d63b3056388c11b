/-
  PARTS of a claim, merged by segs.py: Pg7, Pg8, PgR.
-/
import Derived.Test.YtjhnopnppimnhaaGreatDoorZ24
namespace Go.Proofs.YtjhnopnppimnhaaGreatDoor

/-! ### Pg7 -/
section
open Go.RowKit

theorem prs_isn {bp c k : Nat} {A : Option Addr} {L : List Tok} {V : World} (h : PW bp A c L k V) {s : Str} {z : Bool} (hz : isT (tkL L k) s = z) {g : Nat} (hg : g = V.heap.size) :
    Calls Tryz.prog 144 #[.pointer (some ⟨bp, 0, none⟩), .slice (some ⟨g, 0, none⟩) 1 1] (V.alloc (.cells #[.string ⟨s.toArray⟩] 9)) fun e w' => e = .returned (.bool z) ∧ Below V.heap.size V w' := by
  subst hg
  have hT : TxtsAt (V.alloc (.cells #[.string ⟨s.toArray⟩] 9)) V.heap.size 0 [⟨s.toArray⟩] := fun q hq => by
    have : q = 0 := by simpa using hq
    subst this
    simp
  refine (prs_is (z := z) (h.below (below_one V _)) hT rfl (by simp) (by rw [isAny_one]; exact hz)).mono ?_
  rintro e w' ⟨h1, h2⟩
  exact ⟨h1, (below_one V _).trans (h2.mono (by simp))⟩
/-- A rule, half read. -/
def RuR (w0 : World) (bp br B i : Nat) (r : Rul) (W : World) : Prop :=
  ∃ ua uc, W.heap[br]? = some (.cells #[ua, uc] 142) ∧ OwnRl W B ua uc r ∧ Chg [bp, br] w0 W ∧ r.atoms.length ≤ i ∧ r.conds.length ≤ i ∧ B ≤ W.heap.size
def RuB (w0 : World) (bp br : Nat) (W : World) : Prop := ∃ A1 n1 c1 A2 n2 c2, W.heap[br]? = some (.cells #[.slice A1 n1 c1, .slice A2 n2 c2] 142) ∧ Chg [bp, br] w0 W
structure LayR (w0 : World) (bp br B : Nat) : Prop where
  pr : bp < br
  r0 : br < w0.heap.size
  B0 : w0.heap.size ≤ B
theorem RuR.on {w0 : World} {bp br B i j : Nat} {r : Rul} {W W' : World} (l : LayR w0 bp br B) (h : RuR w0 bp br B i r W) (hc : Chg [bp] W W') (hj : i ≤ j) : RuR w0 bp br B j r W' := by
  obtain ⟨ua, uc, h1, h2, h3, h4, h5, h6⟩ := h
  have := l.pr; have := l.r0; have := l.B0
  exact ⟨ua, uc, (hc.block br (lt_of_block h1) (by simp; omega)).trans h1, h2.chg hc (fun s hs => by simp at hs; omega), h3.then hc (fun t ht => .inl (by simp at ht; simp [ht])), by omega, by omega, Nat.le_trans h6 hc.size⟩
theorem RuR.bad {w0 : World} {bp br B i : Nat} {r : Rul} {W : World} (h : RuR w0 bp br B i r W) : RuB w0 bp br W := by
  obtain ⟨ua, uc, h1, h2, h3, h4, h5, h6⟩ := h
  obtain ⟨Aa, ca, Ac, cc, rfl, rfl⟩ := h2.shape
  exact ⟨_, _, _, _, _, _, h1, h3⟩
/-- Blocks behind w's change freely: of w's own none but p has turned. -/
theorem chg_new {bp b : Nat} {w w1 w2 : World} (h : Chg [bp] w w1) (k : Chg [bp, b] w1 w2) (hb : w.heap.size ≤ b) : Chg [bp] w w2 := h.then k (fun t ht => by simp at ht; rcases ht with ht | ht <;> simp [ht]; omega)
def atomO (tk : Nat → Tok) (n j : Nat) (neg : Bool) (r : Rul) : Out Rul := match openS tk n (j + 1) with
  | .bad b => .bad b
  | .ok ts nx => .ok { r with atoms := r.atoms ++ [⟨neg, (tk j).t, ts⟩] } nx
/-- What terms has left. -/
def TsQ (bp : Nat) (A : Option Addr) (c : Nat) (L : List Tok) (B : Nat) (o : Out (List Trm)) (q : Bool) (u : Value) (w : World) : Prop := match o with
  | .bad b => q = false ∧ PW bp A c L b w
  | .ok ts nx => q = true ∧ PW bp A c L nx w ∧ w.ownsRow B 201 4 u ts.length (ts.flatMap cellsT)

section
variable {bp c i : Nat} {A : Option Addr} {L : List Tok} {W w0 : World} {br B : Nat} {r : Rul}
set_option maxRecDepth 100000 in
set_option maxHeartbeats 2000000 in
theorem prs_item_a (l : LayR w0 bp br B) (hp : PW bp A c L i W) (hr : RuR w0 bp br B i r W) {neg : Bool} (hneg : isT (tkL L i) sNot = neg) {j : Nat} (hj : (if neg = true then i + 1 else i) = j) (hk : (tkL L j).k = 1) (hno : neg = true ∨ isT (tkL L (j + 1)) sOpen = true) :
    Calls Tryz.prog 120 #[.pointer (some ⟨bp, 0, none⟩), .pointer (some ⟨br, 0, none⟩)] W (RetE bp A c L (atomO (tkL L) L.length j neg r) (RuB w0 bp br) (RuR w0 bp br B)) := by
  obtain ⟨i0, hi0, hz0, hz1, hz2⟩ := info_parts infoAtP
  have l1 := l.pr; have l2 := l.r0; have l3 := l.B0
  have hf := hp.few
  have hi := hp.lt
  have hij : i ≤ j := by rw [← hj]; split <;> omega
  have hj1 : j + 1 < L.length := hp.ended.one hk
  have hlp := hp.block_lt
  obtain ⟨ua, uc, h1, h2, h3, h4, h5, h6⟩ := hr
  obtain ⟨Aa, ca, Ac, cc, rfl, rfl⟩ := h2.shape
  have hlb := lt_of_block h1
  have HR := hid (fun (W' : World) (cw : Chg [bp] W W') => (show W'.heap[br]? = some (.cells #[.slice Aa r.atoms.length ca, .slice Ac r.conds.length cc] 142) ∧ OwnRl W' B (.slice Aa r.atoms.length ca) (.slice Ac r.conds.length cc) r ∧ Chg [bp, br] w0 W' ∧ W.heap.size ≤ W'.heap.size from
    ⟨(cw.block br hlb (by simp; omega)).trans h1, h2.chg cw (fun s hs => by simp at hs; omega), h3.then cw (fun t ht => .inl (by simp at ht; simp [ht])), cw.size⟩))
  have HOB : Hid (∀ b, Value.ownBlock (.slice Aa r.atoms.length ca) = some b → B ≤ b ∧ b < W.heap.size) := hid (let ⟨_, _, hu1, _⟩ := h2.1; own_base hu1)
  have HSk := hid (prs_skipn hp (s := sNot) (by decide) hneg rfl)
  have HNm := hid (fun V (p : PW bp A c L j V) bn (hb : V.heap[bn]? = some (.cells #[.string ⟨#[]⟩] 9)) (hne : bp < bn) => prs_name (o := 0) (Z := ⟨#[]⟩) p hb rfl hne (z := true) (by simpa using hk))
  have HIs := hid (fun V (p : PW bp A c L (j + 1) V) (hn : neg = false) => prs_isn p (s := sOpen) (z := true) (hno.resolve_left (by rw [hn]; decide)) rfl)
  obtain ⟨o, ho⟩ : ∃ o, openS (tkL L) L.length (j + 1) = o := ⟨_, rfl⟩
  have HNx : Hid (∀ ts nx, o = .ok ts nx → i < nx) := hid (fun ts nx e => by
    rw [e] at ho
    unfold openS at ho
    split at ho
    · have := parenS_nx hp.ended ho; omega
    · cases ho)
  have HTs := hid (fun V (p : PW bp A c L (j + 1) V) ba rl (hb : V.heap[ba]? = some (.cells #[.bool neg, .string rl, .slice none 0 0] 188)) (hpa : bp < ba) => prs_terms p hb hpa ho)
  unfold atomO
  rw [ho]
  have HJ := hid hj
  clear hp h1 h2 h3 hneg hno ho hj
  generalize tkL L j = t at *
  clear hk
  go_enter Tryz.func120, Tryz.ntmps120
  go_wp2_with fail
  refine HSk.out.mono ?_
  rintro e w1 ⟨rfl, p1, c1⟩
  rw [HJ.out] at p1
  have kb := below_one w1 (.cells #[.string ⟨#[]⟩] 9)
  have hbn := heap_alloc_new w1 (.cells #[.string ⟨#[]⟩] 9)
  have hs1 := c1.size
  have C1 := hid (c1.trans (chg_below kb))
  have HN2 := hid (HNm.out _ (p1.below kb) w1.heap.size hbn (by omega))
  clear p1 c1 kb hbn HSk HNm
  go_wp2_with fail
  refine HN2.out.mono ?_
  rintro e w2 ⟨rfl, p2, b2, c2⟩
  have bn2 : w2.heap[w1.heap.size]? = some (.cells #[.string ⟨t.t.toArray⟩] 9) := b2
  have hs2 := c2.size
  simp only [World.size_alloc] at hs2
  have C2 := hid (chg_new C1.out c2 hs1)
  have P2 : Hid (PW bp A c L (j + 1) w2) := hid p2
  have BN2 := hid bn2
  clear p2 b2 c2 bn2 HN2 C1
  go_upto_region 5 with fail
  go_cut [22] (fun v wx => v = .bool true ∧ Hid (PW bp A c L (j + 1) wx ∧ Chg [bp] W wx ∧ wx.heap[w1.heap.size]? = some (.cells #[.string ⟨t.t.toArray⟩] 9) ∧ w1.heap.size < wx.heap.size))
  case first =>
    cases neg with
    | true =>
      go_wp2_with fail
      go_meet
      exact ⟨rfl, hid ⟨P2.out, C2.out, BN2.out, by omega⟩⟩
    | false =>
      have HI2 := hid (HIs.out w2 P2.out rfl)
      clear HIs HTs
      go_wp2_with fail
      refine HI2.out.mono ?_
      rintro e w3 ⟨rfl, b3⟩
      have kk := b3
      have HF := hid (And.intro (P2.out.below kk) (And.intro (C2.out.trans (chg_below kk)) (And.intro ((kk.block _ (by omega)).trans BN2.out) (show w1.heap.size < w3.heap.size by have := kk.size; omega))))
      clear b3 HI2 kk
      go_wp2_with fail
      go_meet
      exact ⟨rfl, HF⟩
  case rest =>
    obtain ⟨rfl, HF⟩ := hcut
    obtain ⟨w3, rfl⟩ : ∃ w3 : World, w3 = wc := ⟨_, rfl⟩
    clear P2 C2 BN2 HIs hs2
    have e0 := box_cell HF.out.2.2.1 0
    have hlt := HF.out.2.2.2
    have kc := below_one w3 (.cells #[.bool neg, .string ⟨t.t.toArray⟩, .slice none 0 0] 188)
    have HT2 := hid (HTs.out _ (HF.out.1.below kc) w3.heap.size ⟨t.t.toArray⟩ (heap_alloc_new w3 _) (by omega))
    have C4 := hid (HF.out.2.1.trans (chg_below kc))
    have hs3 := HF.out.2.1.size
    have HN3 : Hid (w3.heap.size < (w3.alloc (.cells #[.bool neg, .string ⟨t.t.toArray⟩, .slice none 0 0] 188)).heap.size) := hid (by simp)
    clear HTs kc HF
    go_upto_region 7 with fail
    go_cut [8] (fun v wx => ∃ (q : Bool) (X : Option Addr) (n d : Nat), v = .bool q ∧ Hid (wx.heap[w3.heap.size]? = some (.cells #[.bool neg, .string ⟨t.t.toArray⟩, .slice X n d] 188) ∧ Chg [bp] W wx ∧ TsQ bp A c L B o q (.slice X n d) wx))
    case first =>
      cases o with
      | bad b =>
        go_wp2_with fail
        refine HT2.out.mono ?_
        rintro e w4 ⟨⟨rfl, p4, X, n, d, b4⟩, c4⟩
        have HF := hid (And.intro b4 (And.intro (chg_new C4.out c4 hs3) p4))
        clear p4 b4 c4 HT2 C4
        go_wp2_with fail
        go_meet
        exact ⟨false, X, n, d, rfl, hid ⟨HF.out.1, HF.out.2.1, And.intro rfl HF.out.2.2⟩⟩
      | ok ts nx =>
        go_wp2_with fail
        refine HT2.out.mono ?_
        rintro e w4 ⟨⟨rfl, p4, u, b4, r4⟩, c4⟩
        obtain ⟨X, d, rfl⟩ := own_shape r4
        have HF := hid (And.intro b4 (And.intro (chg_new C4.out c4 hs3) (And.intro p4 (ren_mono (B := B) r4 (by have := HN3.out; omega)))))
        clear p4 b4 c4 r4 HT2 C4
        go_wp2_with fail
        go_meet
        exact ⟨true, X, ts.length, d, rfl, hid ⟨HF.out.1, HF.out.2.1, And.intro rfl (And.intro HF.out.2.2.1 HF.out.2.2.2)⟩⟩
    case rest =>
      obtain ⟨q, X, n, d, rfl, HF⟩ := hcut
      obtain ⟨w4, rfl⟩ : ∃ w4 : World, w4 = wc := ⟨_, rfl⟩
      clear HT2 C4 e0 hlt
      obtain ⟨h1, h2, h3, h4'⟩ := HR.out w4 HF.out.2.1
      have HRW := hid (And.intro h1 (And.intro h2 (And.intro h3 h4')))
      obtain ⟨us, hu0, hu1, hu2⟩ := h2.1
      have HU := hid (And.intro hu0 (And.intro hu1 hu2))
      have hb1 := lt_of_block h1
      have hb2 := lt_of_block HF.out.1
      have d0 := box_cell HF.out.1 0
      have d1 := box_cell HF.out.1 1
      have d2 := box_cell HF.out.1 2
      have e2 := box_cell h1 0
      have hgt : w3.heap.size ≠ br := by have := HN3.out; omega
      have hlen : (r.atoms.length + 1) * 48 ≤ 140737488355328 := by omega
      have hBc : B ≤ w4.heap.size := by omega
      clear h1 h2 h3 h4' hu0 hu2 HR HN3
      go_upto_region 8 with fail
      go_cut [] (fun wx => Hid (∃ g8 cap8, wx.heap[br]? = some (.cells #[.slice (some ⟨g8, 0, none⟩) (r.atoms.length + 1) cap8, .slice Ac r.conds.length cc] 142) ∧ Chg [bp, br] w0 wx ∧ (∀ k, PW bp A c L k w4 → PW bp A c L k wx) ∧ w4.heap.size ≤ wx.heap.size ∧ ∀ ts : List Trm, w4.ownsRow B 201 4 (.slice X n d) ts.length (ts.flatMap cellsT) → OwnRl wx B (.slice (some ⟨g8, 0, none⟩) (r.atoms.length + 1) cap8) (.slice Ac r.conds.length cc) { r with atoms := r.atoms ++ [⟨neg, t.t, ts⟩] }))
      case first =>
        have HFin := hid (fun (w8 : World) (g8 cap8 : Nat) (hown8 : w8.ownsRow B 188 3 (.slice (some ⟨g8, 0, none⟩) (r.atoms.length + 1) cap8) (r.atoms.length + 1) (atC r.atoms us ++ [.bool neg, .string ⟨t.t.toArray⟩, .slice X n d])) (hg8 : w4.grownBy w8 (Value.ownBlock (.slice Aa r.atoms.length ca))) =>
          (show Hid (∃ g8' cap8', (w8.setCell ⟨br, 0, none⟩ (.slice (some ⟨g8, 0, none⟩) (r.atoms.length + 1) cap8)).heap[br]? = some (.cells #[.slice (some ⟨g8', 0, none⟩) (r.atoms.length + 1) cap8', .slice Ac r.conds.length cc] 142) ∧ Chg [bp, br] w0 (w8.setCell ⟨br, 0, none⟩ (.slice (some ⟨g8, 0, none⟩) (r.atoms.length + 1) cap8)) ∧ (∀ k, PW bp A c L k w4 → PW bp A c L k (w8.setCell ⟨br, 0, none⟩ (.slice (some ⟨g8, 0, none⟩) (r.atoms.length + 1) cap8))) ∧ w4.heap.size ≤ (w8.setCell ⟨br, 0, none⟩ (.slice (some ⟨g8, 0, none⟩) (r.atoms.length + 1) cap8)).heap.size ∧ ∀ ts : List Trm, w4.ownsRow B 201 4 (.slice X n d) ts.length (ts.flatMap cellsT) → OwnRl (w8.setCell ⟨br, 0, none⟩ (.slice (some ⟨g8, 0, none⟩) (r.atoms.length + 1) cap8)) B (.slice (some ⟨g8', 0, none⟩) (r.atoms.length + 1) cap8') (.slice Ac r.conds.length cc) { r with atoms := r.atoms ++ [⟨neg, t.t, ts⟩] }) from hid (by
            obtain ⟨h1, h2, h3, h4'⟩ := HRW.out
            obtain ⟨hu0, hu1, hu2⟩ := HU.out
            have hx : ∀ b, Value.ownBlock (.slice Aa r.atoms.length ca) = some b → B ≤ b := fun b e => (HOB.out b e).1
            have hb8 := (hg8.block br hb1 (fun e => by have := hx br e.symm; omega)).trans h1
            refine ⟨g8, cap8, heap_setCell_same w8 br 0 _ _ _ hb8, (h3.grown hg8 (fun b e => .inr (by have := hx b e; omega))).set (.inl (by simp)) 0 _, fun k P => (app_store (o := 0) (v8 := .slice (some ⟨g8, 0, none⟩) (r.atoms.length + 1) cap8) P h3 (.inl (by simp)) l3 h1 l1 (by omega) hx hg8).1, by simp only [World.setCell, Array.size_modify]; exact hg8.size, fun ts ht => ?_⟩
            have hAt := OwnAts.push (a := ⟨neg, t.t, ts⟩) hu0 hu1 hu2 ht hg8 rfl hown8
            have hCn := h2.2.kept hg8 (ren_apart h2.2 hu1 (by decide))
            exact OwnRl.box ⟨hAt, hCn⟩ hb8 (ren_set w8 br 0 _))))
        go_region_law (refine step_append_new_drew Tryz.underlying139 hi0 hz0 hz1 hz2 rfl (by decide) (by decide) rfl rfl rfl hu1 rfl rfl rfl hlen hBc ?_; intro v8 w8 hown8 hg8; obtain ⟨g8, cap8, rfl⟩ := own_slice1 hown8; have m2 := box_cell ((hg8.block br hb1 (fun e => by have := (HOB.out br e.symm).1; omega)).trans HRW.out.1) 0; have f82 := box_free ((hg8.block br hb1 (fun e => by have := (HOB.out br e.symm).1; omega)).trans HRW.out.1) 0; have HFin8 := HFin.out w8 g8 cap8 hown8 ⟨hg8.os, hg8.tape, hg8.output, hg8.size, hg8.block⟩)
        all_goals (go_wp2_with fail; go_meet; exact HFin8)
      case rest =>
        obtain ⟨g8, cap8, r1, r2, r3, r4, r5⟩ := hcut.out
        have HQ := hid HF.out.2.2
        have hBx : B ≤ wc.heap.size := by omega
        clear HF HOB hlen hBc d0 d1 d2 e2 hb1 hb2 hu1 HU HRW
        cases o with
        | bad b =>
          obtain ⟨rfl, hq⟩ := HQ.out
          have HG := hid (And.intro (r3 _ hq) (And.intro r1 r2))
          clear r1 r2 r3 r4 r5 hq HQ hcut
          go_wp2
          go_ret
          exact ⟨rfl, HG.out.1, ⟨_, _, _, _, _, _, HG.out.2.1, HG.out.2.2⟩⟩
        | ok ts nx =>
          obtain ⟨rfl, hq, hcs⟩ := HQ.out
          have HG := hid (And.intro (r3 _ hq) (And.intro r1 (And.intro r2 (r5 ts hcs))))
          clear r1 r2 r3 r5 hq HQ hcut hcs
          go_wp2
          go_ret
          obtain ⟨q1, q2, q3, q4⟩ := HG.out
          have hnx := HNx.out ts nx rfl
          exact ⟨rfl, q1, ⟨_, _, q2, q4, q3, by simp; omega, by show r.conds.length ≤ nx; omega, hBx⟩⟩
end
end

/-! ### Pg8 -/
section
open Go.RowKit

def condO (tk : Nat → Tok) (j : Nat) : Out Cnd := match opT (tk (j + 1)) with
  | none => .bad (j + 1)
  | some o => match constT (tk (j + 2)) with
    | none => .bad (j + 2)
    | some v => .ok ⟨(tk j).t, o, v⟩ (j + 3)
def condR (o : Out Cnd) (r : Rul) : Out Rul := match o with
  | .bad b => .bad b
  | .ok x nx => .ok { r with conds := r.conds ++ [x] } nx
def CdQ (bp : Nat) (A : Option Addr) (c : Nat) (L : List Tok) (o : Out Cnd) (q : Bool) (cs : List Value) (w : World) : Prop := match o with
  | .bad b => q = false ∧ PW bp A c L b w
  | .ok x nx => q = true ∧ PW bp A c L nx w ∧ cellsC x = cs

section
variable {bp c i : Nat} {A : Option Addr} {L : List Tok} {W w0 : World} {br B : Nat} {r : Rul}
set_option maxRecDepth 100000 in
set_option maxHeartbeats 2000000 in
theorem prs_item_c (l : LayR w0 bp br B) (hp : PW bp A c L i W) (hr : RuR w0 bp br B i r W) (hneg : isT (tkL L i) sNot = false) (hk : (tkL L i).k = 1) (hno : isT (tkL L (i + 1)) sOpen = false) :
    Calls Tryz.prog 120 #[.pointer (some ⟨bp, 0, none⟩), .pointer (some ⟨br, 0, none⟩)] W (RetE bp A c L (condR (condO (tkL L) i) r) (RuB w0 bp br) (RuR w0 bp br B)) := by
  obtain ⟨i0, hi0, hz0, hz1, hz2⟩ := info_parts infoCnP
  have l1 := l.pr; have l2 := l.r0; have l3 := l.B0
  have hf := hp.few
  have hi := hp.lt
  have hj1 : i + 1 < L.length := hp.ended.one hk
  have hlp := hp.block_lt
  obtain ⟨ua, uc, h1, h2, h3, h4, h5, h6⟩ := hr
  obtain ⟨Aa, ca, Ac, cc, rfl, rfl⟩ := h2.shape
  have hlb := lt_of_block h1
  have HR := hid (fun (W' : World) (cw : Chg [bp] W W') => (show W'.heap[br]? = some (.cells #[.slice Aa r.atoms.length ca, .slice Ac r.conds.length cc] 142) ∧ OwnRl W' B (.slice Aa r.atoms.length ca) (.slice Ac r.conds.length cc) r ∧ Chg [bp, br] w0 W' ∧ W.heap.size ≤ W'.heap.size from
    ⟨(cw.block br hlb (by simp; omega)).trans h1, h2.chg cw (fun s hs => by simp at hs; omega), h3.then cw (fun t ht => .inl (by simp at ht; simp [ht])), cw.size⟩))
  have HOB : Hid (∀ b, Value.ownBlock (.slice Ac r.conds.length cc) = some b → B ≤ b ∧ b < W.heap.size) := hid (own_base h2.2)
  have HSk := hid (prs_skipn hp (s := sNot) (by decide) hneg rfl)
  have HNm := hid (fun V (p : PW bp A c L i V) bn (hb : V.heap[bn]? = some (.cells #[.string ⟨#[]⟩] 9)) (hne : bp < bn) => prs_name (o := 0) (Z := ⟨#[]⟩) p hb rfl hne (z := true) (by simpa using hk))
  have HIs := hid (fun V (p : PW bp A c L (i + 1) V) => prs_isn p (s := sOpen) (z := false) hno rfl)
  obtain ⟨x, hx⟩ : ∃ x, opT (tkL L (i + 1)) = x := ⟨_, rfl⟩
  obtain ⟨y, hy⟩ : ∃ y, constT (tkL L (i + 2)) = y := ⟨_, rfl⟩
  have HOp := hid (fun V (p : PW bp A c L (i + 1) V) bc rl (hb : V.heap[bc]? = some (.cells (cndA rl 0 0 0 ⟨#[]⟩) 192)) (hpa : bp < bc) => prs_op p hb hpa hx)
  have HCo := hid (fun V (p : PW bp A c L (i + 2) V) bc rl (oo : Nat) (hb : V.heap[bc]? = some (.cells (cndA rl oo 0 0 ⟨#[]⟩) 192)) (hpa : bp < bc) => prs_const (bv := bc) (o := 2) p hb (by simp) hpa hy)
  obtain ⟨o, ho⟩ : ∃ o, condO (tkL L) i = o := ⟨_, rfl⟩
  have HNx : Hid (∀ cd nx, o = .ok cd nx → i < nx) := hid (fun cd nx e => by
    rw [e] at ho
    unfold condO at ho
    split at ho
    · cases ho
    · split at ho
      · cases ho
      · injection ho with _ h; omega)
  rw [ho]
  unfold condO at ho
  rw [hx, hy] at ho
  have HO := hid ho
  clear hp h1 h2 h3 hneg hno ho hx hy
  generalize tkL L i = t at *
  clear hk
  go_enter Tryz.func120, Tryz.ntmps120
  go_wp2_with fail
  refine HSk.out.mono ?_
  rintro e w1 ⟨rfl, p1, c1⟩
  have kb := below_one w1 (.cells #[.string ⟨#[]⟩] 9)
  have hbn := heap_alloc_new w1 (.cells #[.string ⟨#[]⟩] 9)
  have hs1 := c1.size
  have C1 := hid (c1.trans (chg_below kb))
  have HN2 := hid (HNm.out _ (p1.below kb) w1.heap.size hbn (by omega))
  clear p1 c1 kb hbn HSk HNm
  go_wp2_with fail
  refine HN2.out.mono ?_
  rintro e w2 ⟨rfl, p2, b2, c2⟩
  have bn2 : w2.heap[w1.heap.size]? = some (.cells #[.string ⟨t.t.toArray⟩] 9) := b2
  have hs2 := c2.size
  simp only [World.size_alloc] at hs2
  have C2 := hid (chg_new C1.out c2 hs1)
  have P2 : Hid (PW bp A c L (i + 1) w2) := hid p2
  have BN2 := hid bn2
  have HI2 := hid (HIs.out w2 p2)
  clear p2 b2 c2 bn2 HN2 C1 HIs
  go_wp2_with fail
  refine HI2.out.mono ?_
  rintro e w3 ⟨rfl, b3⟩
  have p3 := P2.out.below b3
  have c3 := C2.out.trans (chg_below b3)
  have bn3 := (b3.block _ (by omega)).trans BN2.out
  have e0 := box_cell bn3 0
  have hlt : w1.heap.size < w3.heap.size := by have := b3.size; omega
  have kc := below_one w3 (.cells (cndA ⟨t.t.toArray⟩ 0 0 0 ⟨#[]⟩) 192)
  have hs3 := c3.size
  have HO2 := hid (HOp.out _ (p3.below kc) w3.heap.size ⟨t.t.toArray⟩ (heap_alloc_new w3 _) (by omega))
  have C4 := hid (c3.trans (chg_below kc))
  have HN3 : Hid (w3.heap.size < (w3.alloc (.cells (cndA ⟨t.t.toArray⟩ 0 0 0 ⟨#[]⟩) 192)).heap.size) := hid (by simp)
  clear HOp kc p3 c3 bn3 b3 P2 C2 BN2 HI2 hs2
  go_upto_region 11 with fail
  go_cut [10] (fun v wx => ∃ (q : Bool) (oo kk nn : Int) (ss : ByteArray), v = .bool q ∧ Hid (wx.heap[w3.heap.size]? = some (.cells (cndA ⟨t.t.toArray⟩ oo kk nn ss) 192) ∧ Chg [bp] W wx ∧ CdQ bp A c L o q [.string ⟨t.t.toArray⟩, .int .i64 oo, .int .i64 kk, .int .i64 nn, .string ss] wx))
  case first =>
    cases x with
    | none =>
      have hO := HO.out
      simp only at hO
      subst hO
      go_wp2_with fail
      refine HO2.out.mono ?_
      rintro e w4 ⟨⟨rfl, p4, b4⟩, c4⟩
      have HF := hid (And.intro b4 (And.intro (chg_new C4.out c4 hs3) p4))
      clear p4 b4 c4 HO2 C4 HO
      go_wp2_with fail
      go_meet
      exact ⟨false, 0, 0, 0, ⟨#[]⟩, rfl, hid ⟨HF.out.1, HF.out.2.1, And.intro rfl HF.out.2.2⟩⟩
    | some oo =>
      have hO := HO.out
      simp only at hO
      go_wp2_with fail
      refine HO2.out.mono ?_
      rintro e w4 ⟨⟨rfl, p4, b4⟩, c4⟩
      have hs4 := c4.size
      have HC2 := hid (HCo.out w4 p4 w3.heap.size ⟨t.t.toArray⟩ oo b4 (by omega))
      have C5 := hid (chg_new C4.out c4 hs3)
      clear p4 b4 c4 HO2 C4 HO HCo
      cases y with
      | none =>
        subst hO
        go_wp2_with fail
        refine HC2.out.mono ?_
        rintro e w5 ⟨⟨rfl, p5, b5⟩, c5⟩
        have HF := hid (And.intro b5 (And.intro (chg_new C5.out c5 hs3) p5))
        clear p5 b5 c5 HC2 C5
        go_wp2_with fail
        go_meet
        exact ⟨false, oo, 0, 0, ⟨#[]⟩, rfl, hid ⟨HF.out.1, HF.out.2.1, And.intro rfl HF.out.2.2⟩⟩
      | some v =>
        subst hO
        go_wp2_with fail
        refine HC2.out.mono ?_
        rintro e w5 ⟨⟨rfl, p5, b5⟩, c5⟩
        have HF := hid (And.intro b5 (And.intro (chg_new C5.out c5 hs3) p5))
        clear p5 b5 c5 HC2 C5
        go_wp2_with fail
        go_meet
        exact ⟨true, oo, v.k, v.n, v.s, rfl, hid ⟨HF.out.1, HF.out.2.1, And.intro rfl (And.intro HF.out.2.2 rfl)⟩⟩
  case rest =>
      obtain ⟨q, oo, kk, nn, ss, rfl, HF⟩ := hcut
      obtain ⟨w4, rfl⟩ : ∃ w4 : World, w4 = wc := ⟨_, rfl⟩
      clear HO2 C4 e0 hlt HCo HO
      obtain ⟨h1, h2, h3, h4'⟩ := HR.out w4 HF.out.2.1
      have HRW := hid (And.intro h1 (And.intro h2 (And.intro h3 h4')))
      have hu1 := h2.2
      have hb1 := lt_of_block h1
      have hb2 := lt_of_block HF.out.1
      have d0 := box_cell HF.out.1 0
      have d1 := box_cell HF.out.1 1
      have d2 := box_cell HF.out.1 2
      have d3 := box_cell HF.out.1 3
      have d4 := box_cell HF.out.1 4
      have e2 := box_cell h1 1
      have hgt : w3.heap.size ≠ br := by omega
      have hlen : (r.conds.length + 1) * 56 ≤ 140737488355328 := by omega
      have hBc : B ≤ w4.heap.size := by omega
      clear h1 h2 h3 h4' HR HN3
      go_upto_region 12 with fail
      go_cut [] (fun wx => Hid (∃ g8 cap8, wx.heap[br]? = some (.cells #[.slice Aa r.atoms.length ca, .slice (some ⟨g8, 0, none⟩) (r.conds.length + 1) cap8] 142) ∧ Chg [bp, br] w0 wx ∧ (∀ k, PW bp A c L k w4 → PW bp A c L k wx) ∧ w4.heap.size ≤ wx.heap.size ∧ wx.ownsRow B 192 5 (.slice (some ⟨g8, 0, none⟩) (r.conds.length + 1) cap8) (r.conds.length + 1) (r.conds.flatMap cellsC ++ [.string ⟨t.t.toArray⟩, .int .i64 oo, .int .i64 kk, .int .i64 nn, .string ss]) ∧ OwnAts wx B (.slice Aa r.atoms.length ca) r.atoms))
      case first =>
        have HFin := hid (fun (w8 : World) (g8 cap8 : Nat) (hown8 : w8.ownsRow B 192 5 (.slice (some ⟨g8, 0, none⟩) (r.conds.length + 1) cap8) (r.conds.length + 1) (r.conds.flatMap cellsC ++ [.string ⟨t.t.toArray⟩, .int .i64 oo, .int .i64 kk, .int .i64 nn, .string ss])) (hg8 : w4.grownBy w8 (Value.ownBlock (.slice Ac r.conds.length cc))) =>
          (show Hid (∃ g8' cap8', (w8.setCell ⟨br, 1, none⟩ (.slice (some ⟨g8, 0, none⟩) (r.conds.length + 1) cap8)).heap[br]? = some (.cells #[.slice Aa r.atoms.length ca, .slice (some ⟨g8', 0, none⟩) (r.conds.length + 1) cap8'] 142) ∧ Chg [bp, br] w0 (w8.setCell ⟨br, 1, none⟩ (.slice (some ⟨g8, 0, none⟩) (r.conds.length + 1) cap8)) ∧ (∀ k, PW bp A c L k w4 → PW bp A c L k (w8.setCell ⟨br, 1, none⟩ (.slice (some ⟨g8, 0, none⟩) (r.conds.length + 1) cap8))) ∧ w4.heap.size ≤ (w8.setCell ⟨br, 1, none⟩ (.slice (some ⟨g8, 0, none⟩) (r.conds.length + 1) cap8)).heap.size ∧ (w8.setCell ⟨br, 1, none⟩ (.slice (some ⟨g8, 0, none⟩) (r.conds.length + 1) cap8)).ownsRow B 192 5 (.slice (some ⟨g8', 0, none⟩) (r.conds.length + 1) cap8') (r.conds.length + 1) (r.conds.flatMap cellsC ++ [.string ⟨t.t.toArray⟩, .int .i64 oo, .int .i64 kk, .int .i64 nn, .string ss]) ∧ OwnAts (w8.setCell ⟨br, 1, none⟩ (.slice (some ⟨g8, 0, none⟩) (r.conds.length + 1) cap8)) B (.slice Aa r.atoms.length ca) r.atoms) from hid (by
            obtain ⟨h1, h2, h3, h4'⟩ := HRW.out
            have hx : ∀ b, Value.ownBlock (.slice Ac r.conds.length cc) = some b → B ≤ b := fun b e => (HOB.out b e).1
            have hb8 := (hg8.block br hb1 (fun e => by have := hx br e.symm; omega)).trans h1
            have hg9 := ren_set w8 br 1 (.slice (some ⟨g8, 0, none⟩) (r.conds.length + 1) cap8)
            refine ⟨g8, cap8, heap_setCell_same w8 br 1 _ _ _ hb8, (h3.grown hg8 (fun b e => .inr (by have := hx b e; omega))).set (.inl (by simp)) 1 _, fun k P => (app_store (o := 1) (v8 := (.slice (some ⟨g8, 0, none⟩) (r.conds.length + 1) cap8)) P h3 (.inl (by simp)) l3 h1 l1 (by omega) hx hg8).1, by simp only [World.setCell, Array.size_modify]; exact hg8.size, hown8.kept hg9 (ren_apart hown8 (box_own hb8) (by decide)), ?_⟩
            exact (h2.1.kept h2.2 (by decide) hg8).kept (box_own hb8) (by decide) hg9)))
        go_region_law (refine step_append_new_drew Tryz.underlying140 hi0 hz0 hz1 hz2 rfl (by decide) (by decide) rfl rfl rfl hu1 rfl rfl rfl hlen hBc ?_; intro v8 w8 hown8 hg8; obtain ⟨g8, cap8, rfl⟩ := own_slice1 hown8; have m2 := box_cell ((hg8.block br hb1 (fun e => by have := (HOB.out br e.symm).1; omega)).trans HRW.out.1) 1; have f82 := box_free ((hg8.block br hb1 (fun e => by have := (HOB.out br e.symm).1; omega)).trans HRW.out.1) 1; have HFin8 := HFin.out w8 g8 cap8 hown8 ⟨hg8.os, hg8.tape, hg8.output, hg8.size, hg8.block⟩)
        all_goals (go_wp2_with fail; go_meet; exact HFin8)
      case rest =>
        obtain ⟨g8, cap8, r1, r2, r3, r4, r5, r6⟩ := hcut.out
        have HQ := hid HF.out.2.2
        have hBx : B ≤ wc.heap.size := by omega
        clear HF HOB hlen hBc d0 d1 d2 d3 d4 e2 hb1 hb2 hu1 HRW
        cases o with
        | bad b =>
          obtain ⟨rfl, hq⟩ := HQ.out
          have HG := hid (And.intro (r3 _ hq) (And.intro r1 r2))
          clear r1 r2 r3 r4 r5 r6 hq HQ hcut
          go_wp2
          go_ret
          exact ⟨rfl, HG.out.1, ⟨_, _, _, _, _, _, HG.out.2.1, HG.out.2.2⟩⟩
        | ok cd nx =>
          obtain ⟨rfl, hq, hcs⟩ := HQ.out
          rw [← hcs] at r5
          have HG := hid (And.intro (r3 _ hq) (And.intro r1 (And.intro r2 (And.intro r5 r6))))
          clear r1 r2 r3 r5 r6 hq HQ hcut hcs
          go_wp2
          go_ret
          obtain ⟨q1, q2, q3, q4, q5⟩ := HG.out
          have hnx := HNx.out cd nx rfl
          exact ⟨rfl, q1, ⟨_, _, q2, ⟨q5, by simpa using q4⟩, q3, by show r.atoms.length ≤ nx; omega, by simp; omega, hBx⟩⟩

set_option maxRecDepth 100000 in
set_option maxHeartbeats 2000000 in
theorem prs_item_n (l : LayR w0 bp br B) (hp : PW bp A c L i W) (hr : RuR w0 bp br B i r W) {neg : Bool} (hneg : isT (tkL L i) sNot = neg) {j : Nat} (hj : (if neg = true then i + 1 else i) = j) (hk : (tkL L j).k ≠ 1) :
    Calls Tryz.prog 120 #[.pointer (some ⟨bp, 0, none⟩), .pointer (some ⟨br, 0, none⟩)] W (RetE bp A c L (.bad j) (RuB w0 bp br) (RuR w0 bp br B)) := by
  have hlp := hp.block_lt
  have HR := hid (fun (W' : World) (cw : Chg [bp] W W') => (hr.on l cw (Nat.le_refl i)).bad)
  have HSk := hid (prs_skipn hp (s := sNot) (by decide) hneg rfl)
  have HNm := hid (fun V (p : PW bp A c L j V) bn (hb : V.heap[bn]? = some (.cells #[.string ⟨#[]⟩] 9)) (hne : bp < bn) => prs_name (o := 0) (Z := ⟨#[]⟩) p hb rfl hne (z := false) (by simpa using hk))
  have HJ := hid hj
  clear hp hneg hj hr
  go_enter Tryz.func120, Tryz.ntmps120
  go_wp2_with fail
  refine HSk.out.mono ?_
  rintro e w1 ⟨rfl, p1, c1⟩
  rw [HJ.out] at p1
  have kb := below_one w1 (.cells #[.string ⟨#[]⟩] 9)
  have hbn := heap_alloc_new w1 (.cells #[.string ⟨#[]⟩] 9)
  have hs1 := c1.size
  have C1 := hid (c1.trans (chg_below kb))
  have HN2 := hid (HNm.out _ (p1.below kb) w1.heap.size hbn (by omega))
  clear p1 c1 kb hbn HSk HNm
  go_wp2_with fail
  refine HN2.out.mono ?_
  rintro e w2 ⟨rfl, p2, b2, c2⟩
  have HF := hid (And.intro p2 (HR.out w2 (chg_new C1.out c2 hs1)))
  clear p2 b2 c2 HN2 C1 HR
  go_wp2
  go_ret
  exact ⟨rfl, HF.out.1, HF.out.2⟩
theorem prs_item (l : LayR w0 bp br B) (hp : PW bp A c L i W) (hr : RuR w0 bp br B i r W) :
    Calls Tryz.prog 120 #[.pointer (some ⟨bp, 0, none⟩), .pointer (some ⟨br, 0, none⟩)] W (RetE bp A c L (itemS (tkL L) L.length i r) (RuB w0 bp br) (RuR w0 bp br B)) := by
  obtain ⟨neg, hneg⟩ : ∃ neg, isT (tkL L i) sNot = neg := ⟨_, rfl⟩
  obtain ⟨j, hj⟩ : ∃ j, (if neg = true then i + 1 else i) = j := ⟨_, rfl⟩
  by_cases hk : (tkL L j).k = 1
  · by_cases hno : neg = true ∨ isT (tkL L (j + 1)) sOpen = true
    · have := prs_item_a l hp hr hneg hj hk hno
      have e : itemS (tkL L) L.length i r = atomO (tkL L) L.length j neg r := by
        unfold itemS atomO openS
        simp only [hneg, hj]
        rw [if_neg (by simpa using hk)]
        by_cases h : isT (tkL L (j + 1)) sOpen = true
        · rw [if_pos h, if_pos h]; rfl
        · rw [if_neg h, if_neg h, if_pos (hno.resolve_right h)]
      rw [e]; exact this
    · have hn : neg = false := by
        cases neg with
        | true => exact absurd (.inl rfl) hno
        | false => rfl
      have hs : isT (tkL L (j + 1)) sOpen = false := by
        cases h : isT (tkL L (j + 1)) sOpen with
        | true => exact absurd (.inr h) hno
        | false => rfl
      subst hn
      have hji : i = j := hj
      subst hji
      have := prs_item_c l hp hr hneg hk hs
      have e : itemS (tkL L) L.length i r = condR (condO (tkL L) i) r := by
        unfold itemS condR condO
        simp only [hneg, Bool.false_eq_true, if_false]
        rw [if_neg (by simpa using hk), if_neg (by rw [hs]; decide)]
        cases opT (tkL L (i + 1)) with
        | none => rfl
        | some o =>
          simp only
          cases constT (tkL L (i + 2)) <;> rfl
      rw [e]; exact this
  · have := prs_item_n l hp hr hneg hj hk
    have e : itemS (tkL L) L.length i r = .bad j := by
      unfold itemS
      simp only [hneg, hj]
      rw [if_pos hk]
    rw [e]; exact this
end
end

/-! ### PgR -/
section
open Go.RowKit

section
variable {bp c : Nat} {A : Option Addr} {L : List Tok}
set_option maxRecDepth 100000 in
set_option maxHeartbeats 1000000 in
theorem prs_rule1 {W0 : World} {br gp gr B i : Nat} {r : Rul} {W : World} (l : LayR W0 bp br B) (hgp : W0.heap[gp]? = some (.cells #[.pointer (some ⟨bp, 0, none⟩)] 111)) (hgr : W0.heap[gr]? = some (.cells #[.pointer (some ⟨br, 0, none⟩)] 144)) (h1 : gp ≠ bp ∧ gp ≠ br) (h2 : gr ≠ bp ∧ gr ≠ br) (hp : PW bp A c L i W) (hr : RuR W0 bp br B i r W) :
    Calls Tryz.prog 119 #[.pointer (some ⟨gp, 0, none⟩), .pointer (some ⟨gr, 0, none⟩)] W (RetE bp A c L (itemS (tkL L) L.length i r) (RuB W0 bp br) (RuR W0 bp br B)) := by
  have HI := hid (prs_item l hp hr)
  obtain ⟨ua, uc, _, _, h5, _⟩ := hr
  have cp := box_cell ((h5.block gp (lt_of_block hgp) (by simp; omega)).trans hgp) 0
  have cr := box_cell ((h5.block gr (lt_of_block hgr) (by simp; omega)).trans hgr) 0
  generalize itemS (tkL L) L.length i r = o at *
  clear hgp hgr h5 hp
  cases o with
  | bad b =>
    go_enter Tryz.func119, Tryz.ntmps119
    go_wp2_with fail
    refine HI.out.mono ?_
    rintro e w1 ⟨rfl, p1, r1⟩
    have HF := hid (And.intro p1 r1)
    clear p1 r1 HI cp cr
    go_wp2
    go_ret
    exact ⟨rfl, HF.out.1, HF.out.2⟩
  | ok x nx =>
    go_enter Tryz.func119, Tryz.ntmps119
    go_wp2_with fail
    refine HI.out.mono ?_
    rintro e w1 ⟨rfl, p1, r1⟩
    have HF := hid (And.intro p1 r1)
    clear p1 r1 HI cp cr
    go_wp2
    go_ret
    exact ⟨rfl, HF.out.1, HF.out.2⟩
/-- What rule answers. -/
def RetRr (bp : Nat) (A : Option Addr) (c : Nat) (L : List Tok) (br : Nat) (o : Out Rul) (w : World) (e : Ending) (w' : World) : Prop := (match o with
  | .bad b => e = .returned (.bool false) ∧ PW bp A c L b w' ∧ ∃ A1 n1 c1 A2 n2 c2, w'.heap[br]? = some (.cells #[.slice A1 n1 c1, .slice A2 n2 c2] 142)
  | .ok r nx => e = .returned (.bool true) ∧ PW bp A c L nx w' ∧ ∃ Aa ca Ac cc, w'.heap[br]? = some (.cells #[.slice Aa r.atoms.length ca, .slice Ac r.conds.length cc] 142) ∧ OwnRl w' w.heap.size (.slice Aa r.atoms.length ca) (.slice Ac r.conds.length cc) r) ∧ Chg [bp, br] w w'
set_option maxRecDepth 100000 in
set_option maxHeartbeats 1000000 in
theorem prs_rule {k : Nat} {w : World} {br : Nat} (hp : PW bp A c L k w) (hb : w.heap[br]? = some (.cells #[.slice none 0 0, .slice none 0 0] 142)) (hpr : bp < br) {o : Out Rul} (ho : ruleG (tkL L) L.length L.length k ⟨[], []⟩ = o) :
    Calls Tryz.prog 85 #[.pointer (some ⟨bp, 0, none⟩), .pointer (some ⟨br, 0, none⟩)] w (RetRr bp A c L br o w) := by
  have hmf : ∀ (fn : Fn) (first cap : Array Value) (w : World), (Instr.makeFunc fn first cap).run Tryz.prog w = .ok (.func fn first cap) w := fun _ _ _ _ => rfl
  have hlb := lt_of_block hb
  obtain ⟨W, hW⟩ : ∃ W, (w.alloc (.cells #[.pointer (some ⟨bp, 0, none⟩)] 111)).alloc (.cells #[.pointer (some ⟨br, 0, none⟩)] 144) = W := ⟨_, rfl⟩
  have k0 : Below w.heap.size w W := by rw [← hW]; exact ((Below.refl _ _).alloc (Nat.le_refl _) _).alloc (by simp) _
  have hsz : W.heap.size = w.heap.size + 1 + 1 := by rw [← hW]; simp
  have hgp : W.heap[w.heap.size]? = some (.cells #[.pointer (some ⟨bp, 0, none⟩)] 111) := by rw [← hW, Below.heap_alloc _ _ _ (by simp)]; exact heap_alloc_new w _
  have hgr : W.heap[w.heap.size + 1]? = some (.cells #[.pointer (some ⟨br, 0, none⟩)] 144) := by rw [← hW]; have := heap_alloc_new (w.alloc (.cells #[.pointer (some ⟨bp, 0, none⟩)] 111)) (.cells #[.pointer (some ⟨br, 0, none⟩)] 144); rwa [World.size_alloc] at this
  have hlay : LayR W bp br W.heap.size := ⟨hpr, by omega, Nat.le_refl _⟩
  have hE := hp.ended
  have hr0 : RuR W bp br W.heap.size k ⟨[], []⟩ W := ⟨_, _, (k0.block br hlb).trans hb, ⟨OwnAts.nil, World.ownsRow_nil _ _ _ _⟩, Chg.refl _ _, by simp, by simp, Nat.le_refl _⟩
  rw [← listS_rule] at ho
  have HL := hid (prs_list (itemS (tkL L) L.length) (RuR W bp br W.heap.size) (RuB W bp br) (fun _ _ => rfl) (by decide) (fun i nx a b e => itemStep_nx hE e) (fun i j s W1 W2 h hc hj => h.on hlay hc hj)
    (fun s i V2 p2 r2 => prs_rule1 hlay hgp hgr ⟨by omega, by omega⟩ ⟨by omega, by omega⟩ p2 r2) (hp.below k0) hr0 ho)
  have cp := box_cell hgp 0
  have HW := hid hW
  have C0 := hid (chg_below (S := [bp, br]) k0)
  clear hp hb hgp hgr hlay hr0 ho hE hW
  cases o with
  | bad b =>
    go_enter Tryz.func85, Tryz.ntmps85
    go_wp2_with (first | rw [HW.out] | fail)
    refine HL.out.mono ?_
    rintro e w1 ⟨rfl, p1, r1⟩
    have HF := hid (And.intro p1 r1)
    clear p1 r1 HL cp
    go_wp2
    go_ret
    obtain ⟨p1, A1, n1, c1, A2, n2, c2, h1, h2⟩ := HF.out
    exact ⟨⟨rfl, p1, A1, n1, c1, A2, n2, c2, h1⟩, C0.out.trans h2⟩
  | ok x nx =>
    go_enter Tryz.func85, Tryz.ntmps85
    go_wp2_with (first | rw [HW.out] | fail)
    refine HL.out.mono ?_
    rintro e w1 ⟨rfl, p1, r1⟩
    have HF := hid (And.intro p1 r1)
    clear p1 r1 HL cp
    go_wp2
    go_ret
    obtain ⟨p1, ua, uc, h1, h2, h3, _⟩ := HF.out
    obtain ⟨Aa, ca, Ac, cc, rfl, rfl⟩ := h2.shape
    exact ⟨⟨rfl, p1, Aa, ca, Ac, cc, h1, ⟨h2.1.mono (by omega), ren_mono h2.2 (by omega)⟩⟩, C0.out.trans h3⟩
end
end
end Go.Proofs.YtjhnopnppimnhaaGreatDoor
