/-
  PARTS of a claim, merged by segs.py: PgK, PgQ, Ast12.
-/
import Derived.Test.YtjhnopnppimnhaaGreatDoorZ23
import Derived.Test.YtjhnopnppimnhaaGreatDoorZ24
import Derived.Test.YtjhnopnppimnhaaGreatDoorZ27
import Derived.Test.YtjhnopnppimnhaaGreatDoorZ12
namespace Go.Proofs.YtjhnopnppimnhaaGreatDoor

/-! ### PgK -/
section
open Go.RowKit

def PgKR (W0 : World) (bp bq B : Nat) (v0 v1 v2 v3 : Value) (i : Nat) (s : List Ky) (W : World) : Prop :=
  ∃ u, W.heap[bq]? = some (.cells #[v0, v1, v2, v3, u] 95) ∧ W.ownsRow B 147 2 u s.length (s.flatMap cellsK) ∧ Chg [bp, bq] W0 W ∧ s.length ≤ i ∧ B ≤ W.heap.size
theorem PgKR.on {W0 : World} {bp bq gp gq B i j : Nat} {v0 v1 v2 v3 : Value} {s : List Ky} {W W' : World} (l : LayQ W0 bp bq gp gq B) (h : PgKR W0 bp bq B v0 v1 v2 v3 i s W) (hc : Chg [bp] W W') (hj : i ≤ j) : PgKR W0 bp bq B v0 v1 v2 v3 j s W' := by
  obtain ⟨u, h1, h2, h3, h4, h5⟩ := h
  have := l.pq; have := l.q0; have := l.B0
  exact ⟨u, (hc.block bq (lt_of_block h1) (by simp; omega)).trans h1, hc.ownS h2 (fun s hs => by simp at hs; omega), h3.then hc (fun t ht => .inl (by simp at ht; simp [ht])), by omega, Nat.le_trans h5 hc.size⟩
def KyQ (bp : Nat) (A : Option Addr) (c : Nat) (L : List Tok) (y : Out Ky) (q : Bool) (a : Ky) (w : World) : Prop := match y with
  | .bad b => q = false ∧ PW bp A c L b w
  | .ok x nx => q = true ∧ PW bp A c L nx w ∧ x = a
section
variable {bp c : Nat} {A : Option Addr} {L : List Tok}
set_option maxRecDepth 100000 in
set_option maxHeartbeats 2000000 in
theorem prs_key2 {W0 : World} {bq gp gq B i : Nat} {v0 v1 v2 v3 : Value} {s : List Ky} {W : World} (l : LayQ W0 bp bq gp gq B) (hp : PW bp A c L i W) (hr : PgKR W0 bp bq B v0 v1 v2 v3 i s W) :
    Calls Tryz.prog 87 #[.pointer (some ⟨gp, 0, none⟩), .pointer (some ⟨gq, 0, none⟩)] W (RetE bp A c L (keyStep (tkL L) i s) (QuB W0 bp bq) (PgKR W0 bp bq B v0 v1 v2 v3)) := by
  obtain ⟨i0, hi0, hz0, hz1, hz2⟩ := info_parts infoKyP
  have l1 := l.pq; have l2 := l.q0; have l3 := l.B0; have l4 := l.pp; have l5 := l.qq; have l6 := lt_of_block l.hp; have l7 := lt_of_block l.hq
  have hf := hp.few
  have hi := hp.lt
  have HEn := hid hp.ended
  obtain ⟨u, h1, h2, h5, h6, h7⟩ := hr
  have hl3 : gp < W.heap.size := Nat.lt_of_lt_of_le (lt_of_block l.hp) h5.size
  have hl4 : gq < W.heap.size := Nat.lt_of_lt_of_le (lt_of_block l.hq) h5.size
  have h3 : W.heap[gp]? = some (.cells #[.pointer (some ⟨bp, 0, none⟩)] 111) := (h5.block gp (lt_of_block l.hp) (by simp; omega)).trans l.hp
  have h4 : W.heap[gq]? = some (.cells #[.pointer (some ⟨bq, 0, none⟩)] 115) := (h5.block gq (lt_of_block l.hq) (by simp; omega)).trans l.hq
  have k0 := below_one W (.cells #[.string ⟨#[]⟩, .bool false] 147)
  have hbt := heap_alloc_new W (.cells #[.string ⟨#[]⟩, .bool false] 147)
  obtain ⟨W1, hW1⟩ : ∃ W1, W.alloc (.cells #[.string ⟨#[]⟩, .bool false] 147) = W1 := ⟨_, rfl⟩
  rw [hW1] at k0 hbt
  have hsz : W1.heap.size = W.heap.size + 1 := by rw [← hW1]; simp
  have P1 := hid (hp.below k0)
  have hl1 := lt_of_block h1
  have hlp := hp.block_lt
  obtain ⟨Au, cu, rfl⟩ : ∃ Au cu, u = .slice Au s.length cu := own_shape h2
  have HK := hid (fun (W' : World) (cw : Chg [bp, W.heap.size] W1 W') => (show W'.heap[bq]? = some (.cells #[v0, v1, v2, v3, (.slice Au s.length cu)] 95) ∧ W'.ownsRow B 147 2 (.slice Au s.length cu) s.length (s.flatMap cellsK) ∧ W'.heap[gp]? = some (.cells #[.pointer (some ⟨bp, 0, none⟩)] 111) ∧ W'.heap[gq]? = some (.cells #[.pointer (some ⟨bq, 0, none⟩)] 115) ∧ Chg [bp, bq] W0 W' ∧ W1.heap.size ≤ W'.heap.size from by
    have hcw : Chg [bp] W W' := (chg_below k0).then cw (fun t ht => by simp at ht; rcases ht with ht | ht <;> simp [ht])
    have e : ∀ g, g ≠ bp → g < W.heap.size → W'.heap[g]? = W.heap[g]? := fun g hg hl => hcw.block g hl (by simp; exact hg)
    exact ⟨(e bq (by omega) hl1).trans h1, hcw.ownS h2 (fun s hs => by simp at hs; omega), (e gp (by omega) hl3).trans h3, (e gq (by omega) hl4).trans h4, h5.then hcw (fun t ht => .inl (by simp at ht; simp [ht])), cw.size⟩))
  have c1 := box_cell ((k0.block gp hl3).trans h3) 0
  have HA := hid hW1
  have HOB : Hid (∀ b, Value.ownBlock (.slice Au s.length cu) = some b → B ≤ b ∧ b < W.heap.size) := hid (own_base h2)
  obtain ⟨z, hz⟩ : ∃ z, ((tkL L i).k == 1) = z := ⟨_, rfl⟩
  obtain ⟨d, hd⟩ : ∃ d, isT (tkL L (i + 1)) sDesc = d := ⟨_, rfl⟩
  have HN := hid (prs_name (bn := W.heap.size) (o := 0) (Z := ⟨#[]⟩) P1.out hbt rfl (by omega) hz)
  have HSk := hid (fun V (p : PW bp A c L (i + 1) V) => prs_skipn p (s := sDesc) (by decide) hd rfl)
  obtain ⟨y, hy⟩ : ∃ y : Out Ky, y = if z = true then (if d = true then .ok ⟨(tkL L i).t, true⟩ (i + 2) else .ok ⟨(tkL L i).t, false⟩ (i + 1)) else .bad i := ⟨_, rfl⟩
  have hst : keyStep (tkL L) i s = snocO y s := by
    unfold keyStep snocO
    rw [hy]
    by_cases hk : (tkL L i).k = 1
    · have hz1 : z = true := by rw [← hz]; simpa using hk
      rw [if_neg (by simpa using hk), hz1, hd]
      cases d <;> rfl
    · have hz1 : z = false := by rw [← hz]; simpa using hk
      rw [if_pos hk, hz1]; rfl
  have HNx : Hid (∀ x nx, y = .ok x nx → i < nx) := hid (fun x nx e => by
    rw [hy] at e
    split at e
    · split at e <;> injection e with _ e <;> omega
    · cases e)
  rw [hst]
  clear h1 h2 h3 h4 h5 hp k0 hbt hW1 hz hst hd
  generalize tkL L i = t at *
  have HY := hid hy
  clear hy
  go_enter Tryz.func87, Tryz.ntmps87
  go_wp2_with (first | rw [HA.out] | fail)
  refine HN.out.mono ?_
  rintro e w2 ⟨rfl, p2, b2, c2⟩
  have H2 := hid (And.intro p2 (And.intro b2 c2))
  clear p2 b2 c2 HN c1
  go_upto_region 3 with fail
  go_cut [] (fun wx => ∃ (a : Str) (b : Bool), Hid (wx.heap[W.heap.size]? = some (.cells #[.string ⟨a.toArray⟩, .bool b] 147) ∧ (wx.heap[bq]? = some (.cells #[v0, v1, v2, v3, .slice Au s.length cu] 95) ∧ wx.ownsRow B 147 2 (.slice Au s.length cu) s.length (s.flatMap cellsK) ∧ wx.heap[gp]? = some (.cells #[.pointer (some ⟨bp, 0, none⟩)] 111) ∧ wx.heap[gq]? = some (.cells #[.pointer (some ⟨bq, 0, none⟩)] 115) ∧ Chg [bp, bq] W0 wx ∧ W1.heap.size ≤ wx.heap.size) ∧ KyQ bp A c L y z ⟨a, b⟩ wx))
  case first =>
    cases z with
    | true =>
      simp only [if_true] at HY H2
      obtain ⟨p2, b2, c2⟩ := H2.out
      have b2' : w2.heap[W.heap.size]? = some (.cells #[.string ⟨t.t.toArray⟩, .bool false] 147) := b2
      have cp := box_cell (HK.out w2 c2).2.2.1 0
      have lp := lt_of_block (HK.out w2 c2).2.2.1
      have hl2 := lt_of_block b2'
      have HS2 := hid (HSk.out w2 p2)
      have B2 := hid (And.intro b2' c2)
      clear p2 b2 c2 b2' H2 HSk
      go_wp2_with fail
      refine HS2.out.mono ?_
      rintro e w3 ⟨rfl, p3, c3⟩
      have b3 := (c3.block W.heap.size hl2 (by simp; omega)).trans B2.out.1
      have e3 := box_cell b3 1
      have f3 := box_free b3 1
      have l3' := lt_of_block b3
      have C3 := (B2.out.2.trans (c3.mono (T := [bp, W.heap.size]) (fun s hs => by simp at hs; simp [hs]))).set (b := W.heap.size) (.inl (by simp)) 1 (.bool d)
      have HF := hid (And.intro (heap_setCell_same w3 W.heap.size 1 _ _ (.bool d) b3) (And.intro (HK.out _ C3) (p3.chg ((Chg.refl [W.heap.size] w3).set (b := W.heap.size) (.inl (by simp)) 1 (.bool d)) (fun s hs => by simp at hs; omega))))
      clear p3 c3 b3 C3 HS2 B2 HK cp lp hl2
      go_wp2_with fail
      go_meet
      exact ⟨t.t, d, hid ⟨HF.out.1, HF.out.2.1, by
        rw [HY.out]
        cases d with
        | true => exact And.intro rfl (And.intro HF.out.2.2 rfl)
        | false => exact And.intro rfl (And.intro HF.out.2.2 rfl)⟩⟩
    | false =>
      simp only [Bool.false_eq_true, if_false] at HY H2
      obtain ⟨p2, b2, c2⟩ := H2.out
      have e3 := box_cell b2 1
      have f3 := box_free b2 1
      have l3' := lt_of_block b2
      have C3 := c2.set (b := W.heap.size) (.inl (by simp)) 1 (.bool false)
      have HF := hid (And.intro (heap_setCell_same w2 W.heap.size 1 _ _ (.bool false) b2) (And.intro (HK.out _ C3) (p2.chg ((Chg.refl [W.heap.size] w2).set (b := W.heap.size) (.inl (by simp)) 1 (.bool false)) (fun s hs => by simp at hs; omega))))
      clear p2 b2 c2 C3 H2 HK HSk
      go_wp2_with fail
      go_meet
      exact ⟨[], false, hid ⟨HF.out.1, HF.out.2.1, by rw [HY.out]; exact And.intro rfl HF.out.2.2⟩⟩
  case rest =>
    obtain ⟨a, b, HF⟩ := hcut
    obtain ⟨w4, rfl⟩ : ∃ w4 : World, w4 = wc := ⟨_, rfl⟩
    clear HK HA P1 H2 HSk HY
    obtain ⟨bt, ⟨g1, g2, g3, g4, g5, g6⟩, hq⟩ := HF.out
    have gown := g2
    have hb1 := lt_of_block g1
    have hb2 := lt_of_block bt
    have hb4 := lt_of_block g4
    have d0 := box_cell HF.out.1 0
    have d1 := box_cell HF.out.1 1
    have e1 := box_cell g4 0
    have e2 := box_cell g1 4
    have hgt : W.heap.size ≠ bq := by omega
    have hlen : (s.length + 1) * 24 ≤ 140737488355328 := by omega
    have hBc : B ≤ w4.heap.size := by omega
    clear g1 g3 g4 g5 bt hq
    go_upto_region 4 with fail
    go_cut [] (fun wx => Hid (∃ g8 cap8, wx.heap[bq]? = some (.cells #[v0, v1, v2, v3, (.slice (some ⟨g8, 0, none⟩) (s.length + 1) cap8)] 95) ∧ Chg [bp, bq] W0 wx ∧ (∀ j, PW bp A c L j w4 → PW bp A c L j wx) ∧ w4.heap.size ≤ wx.heap.size ∧ wx.ownsRow B 147 2 (.slice (some ⟨g8, 0, none⟩) (s.length + 1) cap8) (s.length + 1) (s.flatMap cellsK ++ [.string ⟨a.toArray⟩, .bool b])))
    case first =>
      have HFin := hid (fun (w8 : World) (g8 cap8 : Nat) (hown8 : w8.ownsRow B 147 2 (.slice (some ⟨g8, 0, none⟩) (s.length + 1) cap8) (s.length + 1) (s.flatMap cellsK ++ [.string ⟨a.toArray⟩, .bool b])) (hg8 : w4.grownBy w8 (Value.ownBlock (.slice Au s.length cu))) =>
        (show Hid (∃ g8' cap8', (w8.setCell ⟨bq, 4, none⟩ (.slice (some ⟨g8, 0, none⟩) (s.length + 1) cap8)).heap[bq]? = some (.cells #[v0, v1, v2, v3, (.slice (some ⟨g8', 0, none⟩) (s.length + 1) cap8')] 95) ∧ Chg [bp, bq] W0 (w8.setCell ⟨bq, 4, none⟩ (.slice (some ⟨g8, 0, none⟩) (s.length + 1) cap8)) ∧ (∀ j, PW bp A c L j w4 → PW bp A c L j (w8.setCell ⟨bq, 4, none⟩ (.slice (some ⟨g8, 0, none⟩) (s.length + 1) cap8))) ∧ w4.heap.size ≤ (w8.setCell ⟨bq, 4, none⟩ (.slice (some ⟨g8, 0, none⟩) (s.length + 1) cap8)).heap.size ∧ (w8.setCell ⟨bq, 4, none⟩ (.slice (some ⟨g8, 0, none⟩) (s.length + 1) cap8)).ownsRow B 147 2 (.slice (some ⟨g8', 0, none⟩) (s.length + 1) cap8') (s.length + 1) (s.flatMap cellsK ++ [.string ⟨a.toArray⟩, .bool b])) from hid (by
          obtain ⟨bt, ⟨g1, g2, g3, g4, g5, g6⟩, _⟩ := HF.out
          have hx : ∀ b, Value.ownBlock (.slice Au s.length cu) = some b → B ≤ b := fun b e => (HOB.out b e).1
          have hb8 := (hg8.block bq (lt_of_block g1) (fun e => by have := hx bq e.symm; omega)).trans g1
          have hg9 := ren_set w8 bq 4 (.slice (some ⟨g8, 0, none⟩) (s.length + 1) cap8)
          refine ⟨g8, cap8, heap_setCell_same w8 bq 4 _ _ _ hb8, (g5.grown hg8 (fun b e => .inr (by have := hx b e; omega))).set (.inl (by simp)) 4 _, fun j P => (app_store (o := 4) (v8 := (.slice (some ⟨g8, 0, none⟩) (s.length + 1) cap8)) P g5 (.inl (by simp)) (by omega) g1 (by omega) (by omega) hx hg8).1, by simp only [World.setCell, Array.size_modify]; exact hg8.size, ?_⟩
          exact hown8.kept hg9 (ren_apart hown8 (qbox_own hb8) (by decide)))))
      go_region_law (refine step_append_new_drew Tryz.underlying93 hi0 hz0 hz1 hz2 rfl (by decide) (by decide) rfl rfl rfl gown rfl rfl rfl hlen hBc ?_; intro v8 w8 hown8 hg8; obtain ⟨g8, cap8, rfl⟩ := own_slice1 hown8; have m2 := box_cell ((hg8.block bq hb1 (fun e => by have := (HOB.out bq e.symm).1; omega)).trans HF.out.2.1.1) 4; have f82 := box_free ((hg8.block bq hb1 (fun e => by have := (HOB.out bq e.symm).1; omega)).trans HF.out.2.1.1) 4; have m1 := box_cell ((hg8.block gq hb4 (fun e => by have := (HOB.out gq e.symm).1; omega)).trans HF.out.2.1.2.2.2.1) 0; have HFin8 := HFin.out w8 g8 cap8 hown8 ⟨hg8.os, hg8.tape, hg8.output, hg8.size, hg8.block⟩)
      all_goals (go_wp2_with fail; go_meet; exact HFin8)
    case rest =>
      have HQ := hid HF.out.2.2
      have hBx : B ≤ wc.heap.size := by have := hcut.out.choose_spec.choose_spec.2.2.2.1; omega
      clear HF HOB gown hlen hBc d0 d1 e1 e2 hb1 hb2 hb4
      obtain ⟨g8, cap8, r1, r2, r3, r4, r5⟩ := hcut.out
      cases y with
      | bad b =>
        obtain ⟨rfl, hq⟩ := HQ.out
        have HG := hid (And.intro (r3 _ hq) r2)
        clear r1 r2 r3 r4 r5 hq HQ hcut
        go_wp2
        go_ret
        exact ⟨rfl, HG.out.1, HG.out.2⟩
      | ok x nx =>
        obtain ⟨rfl, hq, hcs⟩ := HQ.out
        have hnx := HNx.out x nx rfl
        have HG := hid (And.intro (r3 _ hq) (And.intro r1 (And.intro r2 (show wc.ownsRow B 147 2 (.slice (some ⟨g8, 0, none⟩) (s.length + 1) cap8) (s.length + 1) (s.flatMap cellsK ++ cellsK x) from by rw [hcs]; exact r5))))
        clear r1 r2 r3 r5 hq HQ hcut hcs
        go_wp2
        go_ret
        obtain ⟨q1, q2, q3, q4⟩ := HG.out
        exact ⟨rfl, q1, ⟨_, q2, by simpa using q4, q3, by simp; omega, hBx⟩⟩
end
end

/-! ### PgQ -/
section
open Go.RowKit

/-- What query answers. -/
def RetQu (bp : Nat) (A : Option Addr) (c : Nat) (L : List Tok) (bq : Nat) (o : Out Qry) (w : World) (e : Ending) (w' : World) : Prop := (match o with
  | .bad b => e = .returned (.bool false) ∧ PW bp A c L b w'
  | .ok q nx => e = .returned (.bool true) ∧ PW bp A c L nx w' ∧ ∃ H ch R cr O co, w'.heap[bq]? = some (.cells (qyC H q.head.length ch q.agg ⟨q.aggVar.toArray⟩ R q.rules.length cr O q.order.length co) 95) ∧ OwnQy w' w.heap.size H ch R cr O co q) ∧ Chg [bp, bq] w w'
section
variable {bp c : Nat} {A : Option Addr} {L : List Tok} {w : World}
set_option maxRecDepth 100000 in
set_option maxHeartbeats 4000000 in
theorem prs_query (hp : PW bp A c L 0 w) {bq : Nat} (hb : w.heap[bq]? = some (.cells (qryA (.slice none 0 0) 0 ⟨#[]⟩ (.slice none 0 0) (.slice none 0 0)) 95)) (hpq : bp < bq) {o : Out Qry} (ho : queryS (tkL L) L.length = o) :
    Calls Tryz.prog 64 #[.pointer (some ⟨bp, 0, none⟩), .pointer (some ⟨bq, 0, none⟩)] w (RetQu bp A c L bq o w) := by
  have hmf : ∀ (fn : Fn) (first cap : Array Value) (w : World), (Instr.makeFunc fn first cap).run Tryz.prog w = .ok (.func fn first cap) w := fun _ _ _ _ => rfl
  have hlb := lt_of_block hb
  obtain ⟨W, hW⟩ : ∃ W, (w.alloc (.cells #[.pointer (some ⟨bp, 0, none⟩)] 111)).alloc (.cells #[.pointer (some ⟨bq, 0, none⟩)] 115) = W := ⟨_, rfl⟩
  have k0 : Below w.heap.size w W := by rw [← hW]; exact ((Below.refl _ _).alloc (Nat.le_refl _) _).alloc (by simp) _
  have hsz : W.heap.size = w.heap.size + 1 + 1 := by rw [← hW]; simp
  have hgp : W.heap[w.heap.size]? = some (.cells #[.pointer (some ⟨bp, 0, none⟩)] 111) := by rw [← hW, Below.heap_alloc _ _ _ (by simp)]; exact heap_alloc_new w _
  have hgq : W.heap[w.heap.size + 1]? = some (.cells #[.pointer (some ⟨bq, 0, none⟩)] 115) := by rw [← hW]; have := heap_alloc_new (w.alloc (.cells #[.pointer (some ⟨bp, 0, none⟩)] 111)) (.cells #[.pointer (some ⟨bq, 0, none⟩)] 115); rwa [World.size_alloc] at this
  have hE := hp.ended
  have HEn := hid hE
  have K0 := hid (chg_below (S := [bp, bq]) k0)
  have HW := hid hW
  have cp := box_cell hgp 0
  have cq := box_cell hgq 0
  have hlp := hp.block_lt
  have HBx := hid (fun (V : World) (h : Chg [bp, bq] W V) => (show V.heap[w.heap.size]? = some (.cells #[.pointer (some ⟨bp, 0, none⟩)] 111) ∧ V.heap[w.heap.size + 1]? = some (.cells #[.pointer (some ⟨bq, 0, none⟩)] 115) ∧ W.heap.size ≤ V.heap.size from
    ⟨(h.block _ (by omega) (by simp; omega)).trans hgp, (h.block _ (by omega) (by simp; omega)).trans hgq, h.size⟩))
  obtain ⟨oh, hoh⟩ : ∃ oh, headG (tkL L) L.length = oh := ⟨_, rfl⟩
  have HH := hid (prs_head (hp.below k0) ((k0.block bq hlb).trans hb) hpq hoh)
  unfold queryS at ho
  rw [hoh] at ho
  have HSo := hid (fun q nx (e : oh = .ok q nx) => And.intro (headS_sort (hoh.trans e)) (headS_nx hE (hoh.trans e)))
  clear hp hb hgp hgq hE hW hoh
  cases oh with
  | bad b =>
    simp only at ho
    subst ho
    go_enter Tryz.func64, Tryz.ntmps64
    go_wp2_with (first | rw [HW.out] | fail)
    refine HH.out.mono ?_
    rintro e w1 ⟨⟨rfl, p1⟩, c1⟩
    have HG := hid (And.intro p1 (K0.out.trans c1))
    clear p1 c1 HH cp cq HBx
    go_wp2
    go_ret
    exact ⟨⟨rfl, HG.out.1⟩, HG.out.2⟩
  | ok q0 nx =>
    obtain ⟨⟨hq1, hq2⟩, hnx⟩ := HSo.out q0 nx rfl
    obtain ⟨hs, ga, gs, gr, go⟩ := q0
    simp only at hq1 hq2 ho HH
    subst hq1 hq2
    clear HSo
    obtain ⟨orl, horl⟩ : ∃ orl, rulesS (tkL L) L.length L.length nx [] = orl := ⟨_, rfl⟩
    rw [horl] at ho
    rw [← listS_rules] at horl
    have HO := hid ho
    have HRl := hid horl
    clear ho horl
    go_enter Tryz.func64, Tryz.ntmps64
    go_wp2_with (first | rw [HW.out] | fail)
    refine HH.out.mono ?_
    rintro e w1 ⟨⟨rfl, p1, H, ch, b1, r1⟩, c1⟩
    obtain ⟨g1, g2, g3⟩ := HBx.out w1 c1
    have cp1 := box_cell g1 0
    have hlb1 := lt_of_block b1
    have hlay : LayQ w1 bp bq w.heap.size (w.heap.size + 1) w1.heap.size := ⟨hpq, hlb1, Nat.le_refl _, g1, g2, ⟨by omega, by omega⟩, ⟨by omega, by omega⟩⟩
    have HL := hid (prs_list (ruleStep (tkL L) L.length) (PgUR w1 bp bq w1.heap.size (.slice H hs.length ch) (.int .i64 ga) (.string ⟨gs.toArray⟩) (.slice none 0 0)) (QuB w1 bp bq) (fun _ _ => rfl) (by decide) (fun i nx a b e => ruleStep_nx HEn.out e) (fun i j s W1 W2 h hc hj => h.on hlay hc hj)
      (fun s i V2 p2 r2 => prs_query1 hlay p2 r2) p1 ⟨_, b1, OwnRls.nil, Chg.refl _ _, by simp, Nat.le_refl _⟩ HRl.out)
    have HF1 := hid (And.intro r1 c1)
    have HNx2 := hid (fun rs n2 (e : orl = .ok rs n2) => (HRl.out.trans e))
    clear p1 b1 r1 c1 HH cp cq g1 g2 hlay HRl
    cases orl with
    | bad b =>
      have hO := HO.out
      simp only at hO
      subst hO
      go_wp2_with fail
      refine HL.out.mono ?_
      rintro e w2 ⟨rfl, p2, r2⟩
      have HG := hid (And.intro p2 (K0.out.trans (HF1.out.2.trans r2)))
      clear p2 r2 HL cp1 HBx HF1 HO
      go_wp2
      go_ret
      exact ⟨⟨rfl, HG.out.1⟩, HG.out.2⟩
    | ok rs n2 =>
      obtain ⟨z, hz⟩ : ∃ z, isT (tkL L n2) sOrder = z := ⟨_, rfl⟩
      have HS := hid (fun V (p : PW bp A c L n2 V) => prs_skipn p (s := sOrder) (by decide) hz rfl)
      have hO := HO.out
      simp only at hO
      rw [hz] at hO
      have HO2 := hid hO
      clear HO hO hz HNx2
      go_wp2_with fail
      refine HL.out.mono ?_
      rintro e w2 ⟨rfl, p2, u, h1, h2, h3, h4, h5⟩
      obtain ⟨R, cr, rfl⟩ : ∃ R cr, u = .slice R rs.length cr := (let ⟨_, _, _, _, h, _⟩ := h2; own_shape h)
      have hc2 := HF1.out.2.trans h3
      obtain ⟨g1, g2, g4⟩ := HBx.out w2 hc2
      have cp2 := box_cell g1 0
      have lp2 := lt_of_block g1
      have HS2 := hid (HS.out w2 p2)
      have HF2 := hid (And.intro h1 (And.intro h2 (And.intro (h3.ownS HF1.out.1 (fun s hs => by simp at hs; omega)) hc2)))
      clear p2 h1 h2 h3 hc2 g1 g2 HL cp1 HS HF1
      go_wp2_with fail
      refine HS2.out.mono ?_
      rintro e w3 ⟨rfl, p3, c3⟩
      have HF3 := hid (show PW bp A c L (if z = true then n2 + 1 else n2) w3 ∧ w3.heap[bq]? = some (.cells #[.slice H hs.length ch, .int .i64 ga, .string ⟨gs.toArray⟩, .slice R rs.length cr, .slice none 0 0] 95) ∧ OwnRls w3 w1.heap.size (.slice R rs.length cr) rs ∧ w3.ownsRow W.heap.size 9 1 (.slice H hs.length ch) hs.length (hs.map nmV) ∧ Chg [bp, bq] W w3 from by
        obtain ⟨h1, h2, h3, h4⟩ := HF2.out
        exact ⟨p3, (c3.block bq (lt_of_block h1) (by simp; omega)).trans h1, h2.chg c3 (fun s hs => by simp at hs; omega), c3.ownS h3 (fun s hs => by simp at hs; omega), h4.trans (c3.mono (fun s hs => by simp at hs; simp [hs]))⟩)
      clear p3 c3 HS2 cp2 lp2 HF2
      cases z with
      | false =>
        have hO := HO2.out
        rw [if_neg (by decide)] at hO
        subst hO
        clear HO2
        go_wp2
        go_ret
        obtain ⟨h0, h1, h2, h3, h4⟩ := HF3.out
        exact ⟨⟨rfl, h0, H, ch, R, cr, none, 0, h1, ⟨ren_mono h3 (by omega), h2.mono (by omega), World.ownsRow_nil _ _ _ _⟩⟩, K0.out.trans h4⟩
      | true =>
        have hO := HO2.out
        rw [if_pos rfl] at hO
        simp only [if_true] at HF3
        obtain ⟨h0, h1, h2, h3, h4⟩ := HF3.out
        obtain ⟨ok, hok⟩ : ∃ ok, keysS (tkL L) L.length (n2 + 1) [] = ok := ⟨_, rfl⟩
        rw [hok] at hO
        rw [← listS_keys] at hok
        have HO3 := hid hO
        obtain ⟨g1, g2, g4⟩ := HBx.out w3 h4
        have cp3 := box_cell g1 0
        have hlb3 := lt_of_block h1
        have hlay : LayQ w3 bp bq w.heap.size (w.heap.size + 1) w3.heap.size := ⟨hpq, hlb3, Nat.le_refl _, g1, g2, ⟨by omega, by omega⟩, ⟨by omega, by omega⟩⟩
        have HL := hid (prs_list (keyStep (tkL L)) (PgKR w3 bp bq w3.heap.size (.slice H hs.length ch) (.int .i64 ga) (.string ⟨gs.toArray⟩) (.slice R rs.length cr)) (QuB w3 bp bq) (fun _ _ => rfl) (by decide) (fun i nx a b e => keyStep_nx HEn.out e) (fun i j s W1 W2 h hc hj => h.on hlay hc hj)
          (fun s i V2 p2 r2 => prs_key2 hlay p2 r2) h0 ⟨_, h1, World.ownsRow_nil _ _ _ _, Chg.refl _ _, by simp, Nat.le_refl _⟩ hok)
        clear HO2 hO h0 h1 h2 h3 h4 g1 g2 hlay hok
        cases ok with
        | bad b =>
          have hO := HO3.out
          simp only at hO
          subst hO
          go_wp2_with fail
          refine HL.out.mono ?_
          rintro e w4 ⟨rfl, p4, r4⟩
          have HG := hid (And.intro p4 (K0.out.trans (HF3.out.2.2.2.2.trans r4)))
          clear p4 r4 HL cp3 HBx HF3 HO3
          go_wp2
          go_ret
          exact ⟨⟨rfl, HG.out.1⟩, HG.out.2⟩
        | ok ks n3 =>
          have hO := HO3.out
          simp only at hO
          subst hO
          go_wp2_with fail
          refine HL.out.mono ?_
          rintro e w4 ⟨rfl, p4, u, h1, h2, h3, _, h5⟩
          obtain ⟨O, co, rfl⟩ := own_shape h2
          have HG := hid (And.intro p4 (And.intro h1 (And.intro h2 (And.intro h3 h5))))
          clear p4 h1 h2 h3 HL cp3 HBx HO3
          go_wp2
          go_ret
          obtain ⟨p4, h1, h2, h3, h5⟩ := HG.out
          obtain ⟨_, _, j2, j3, j4⟩ := HF3.out
          exact ⟨⟨rfl, p4, H, ch, R, cr, O, co, h1, ⟨ren_mono (h3.ownS j3 (fun s hs => by simp at hs; omega)) (by omega), (j2.chg h3 (fun s hs => by simp at hs; omega)).mono (by omega), ren_mono h2 (by omega)⟩⟩, K0.out.trans (j4.trans h3)⟩
end
end

/-! ### Ast12 -/
section
open Go.RowKit

theorem headGo_zero : ∀ (l pre : List Str), headGo pre l = 0 → (∀ v ∈ l, nameB v = true ∧ v ∉ pre) ∧ l.Nodup
  | [], _, _ => by simp
  | v :: l, pre, h => by
    unfold headGo at h
    split at h
    · exact absurd h (by decide)
    · rename_i h1
      split at h
      · exact absurd h (by decide)
      · rename_i h2
        obtain ⟨h3, h4⟩ := headGo_zero l (pre ++ [v]) h
        refine ⟨fun u hu => ?_, ?_⟩
        · rcases List.mem_cons.1 hu with rfl | hu
          · exact ⟨by simpa using h1, h2⟩
          · exact ⟨(h3 u hu).1, fun e => (h3 u hu).2 (List.mem_append_left _ e)⟩
        · rw [List.nodup_cons]
          exact ⟨fun e => (h3 v e).2 (by simp), h4⟩
theorem headE_zero {l : List Str} (h : headE l = 0) : l.length ≤ 6 ∧ (∀ v ∈ l, nameB v = true) ∧ l.Nodup := by
  unfold headE at h
  split at h
  · exact absurd h (by decide)
  · obtain ⟨h1, h2⟩ := headGo_zero l [] h
    exact ⟨by omega, fun v hv => (h1 v hv).1, h2⟩
theorem need_ne {q : Qry} (h : headE q.head = 0) : ∀ v ∈ needL q, v ≠ [] := by
  intro v hv
  unfold needL at hv
  rcases List.mem_append.1 hv with h1 | h1
  · exact nameB_ne ((headE_zero h).2.1 v h1)
  · split at h1
    · cases h1
    · rename_i h2
      rw [List.mem_singleton.1 h1]; exact h2

set_option maxRecDepth 100000 in
set_option maxHeartbeats 4000000 in
theorem ast_check (q : Qry) (A R O : Option Addr) (ch cr co : Nat) (w : World) (hq : QryIn w q A R O ch cr co) (hwf : q.wf) {x : Int} (hx : checkQ q = x) :
    Calls Tryz.prog 67 #[qryV q A R O ch cr co] w fun e w' => e = .returned (.int .i64 x) ∧ Below w.heap.size w w' := by
  have HQ := hid hq
  have HW := hid hwf
  obtain ⟨y1, e1⟩ : ∃ y, headE q.head = y := ⟨_, rfl⟩
  obtain ⟨y2, e2⟩ : ∃ y, aggE q = y := ⟨_, rfl⟩
  obtain ⟨y3, e3⟩ : ∃ y, firstE (ruleE q) q.rules = y := ⟨_, rfl⟩
  obtain ⟨y4, e4⟩ : ∃ y, orderE q = y := ⟨_, rfl⟩
  have C1 := fun W h => hid (ast_checkHead A ch q.head W h hq.lh hq.mh e1)
  have C2 := fun W => hid (ast_checkAggregate q (.slice A q.head.length ch) (.slice R q.rules.length cr) (.slice O q.order.length co) W e2)
  have C3 := fun W h h6 hne => hid (ast_checkRules q A R O ch cr co W h HW.out h6 hne e3)
  have C4 := fun W h => hid (ast_checkOrder q A R O ch cr co W h HW.out e4)
  have hz6 := fun h : y1 = 0 => (headE_zero (e1.trans h)).1
  have hzn := fun h : y1 = 0 => need_ne (e1.trans h)
  have HZ6 := hid hz6
  have HZN := hid hzn
  unfold checkQ at hx
  rw [e1, e2, e3, e4] at hx
  have hr0 : q.rules = [] ↔ q.rules.length = 0 := List.length_eq_zero_iff.symm
  simp only [hr0] at hx
  obtain ⟨mh, mr, mo⟩ := (⟨hq.mh, hq.mr, hq.mo⟩ : _ ∧ _ ∧ _)
  obtain ⟨Y, hY, _, _⟩ := nm q.aggVar
  unfold qryV at C3 C4 ⊢
  rw [hY] at C2 ⊢
  simp only [hY] at C3 C4
  clear e1 e2 e3 e4 hz6 hzn hr0 hY hq hwf
  obtain ⟨hd, ga, av, rs, os⟩ := q
  simp only at *
  have HB : Hid (Below (w.heap.size + 1) (w.alloc (.cells #[.slice A hd.length ch, .int .i64 ga, .string Y, .slice R rs.length cr, .slice O os.length co] 95)) (w.alloc (.cells #[.slice A hd.length ch, .int .i64 ga, .string Y, .slice R rs.length cr, .slice O os.length co] 95))) := hid (Below.refl _ _)
  obtain ⟨_, _, _, _, _, _, hb0⟩ := qry_cells HB.out
  have HX := hid hx
  clear hx
  by_cases h0 : rs.length = 0
  · have hx := HX.out
    rw [if_pos h0] at hx
    subst hx
    have bz0 : ((rs.length : Int) == 0) = true := by rw [beq_iff_eq]; omega
    clear h0 HX C1 C2 C3 C4 HB
    go_enter Tryz.func67, Tryz.ntmps67
    go_wp2
    go_ret
    exact ⟨rfl, hb0⟩
  · have bz : ((rs.length : Int) == 0) = false := by rw [beq_eq_false_iff_ne]; omega
    by_cases h3 : 3 < rs.length
    · have hx := HX.out
      rw [if_neg h0, if_pos (.inl h3)] at hx
      subst hx
      clear HX C1 C2 C3 C4 HB h0
      go_enter Tryz.func67, Tryz.ntmps67
      go_wp2
      go_ret
      exact ⟨rfl, hb0⟩
    · by_cases hm : 1 < rs.length ∧ ga ≠ 0
      · have hx := HX.out
        rw [if_neg h0, if_pos (.inr hm)] at hx
        subst hx
        obtain ⟨h1, h2⟩ := hm
        have bg : (ga != 0) = true := by simpa using h2
        clear HX C1 C2 C3 C4 HB h0 h2
        go_enter Tryz.func67, Tryz.ntmps67
        go_wp2
        go_ret
        exact ⟨rfl, hb0⟩
      · have hx := HX.out
        rw [if_neg h0, if_neg (by rintro (h | h); exact h3 h; exact hm h)] at hx
        have HX2 := hid hx
        have bg : (decide (1 < (rs.length : Int)) && (ga != 0)) = false := by
          rw [Bool.and_eq_false_iff]
          by_cases h : 1 < rs.length
          · right; simpa using fun e => hm ⟨h, e⟩
          · left; exact decide_eq_false (by omega)
        have hway : ¬ 1 < rs.length ∨ (1 < rs.length ∧ (ga != 0) = false) := by
          by_cases h : 1 < rs.length
          · right; exact ⟨h, by simpa using fun e => hm ⟨h, e⟩⟩
          · left; exact h
        clear hx HX hm h0 bg
        rcases hway with h1 | ⟨h1, bg⟩
        all_goals
          go_enter Tryz.func67, Tryz.ntmps67
          go_wp2_with fail
          refine (C1 _ (HQ.out.head.below hb0)).out.mono ?_
          rintro e w1 ⟨rfl, rfl⟩
          clear C1
          by_cases hy1 : y1 = 0
          · have by1 : (y1 != 0) = false := by simpa using hy1
            have hx := HX2.out
            rw [if_neg (by simpa using hy1)] at hx
            have h6 := HZ6.out hy1
            have hne := HZN.out hy1
            have HN := hid hne
            have HX3 := hid hx
            clear HX2 hx HZ6 HZN hne
            subst hy1
            go_wp2_with fail
            refine (C2 _).out.mono ?_
            rintro e w2 ⟨rfl, b2⟩
            have HB2 := hid (HB.out.trans (b2.mono (by simp)))
            clear C2 b2 HB
            obtain ⟨q0, q1, q2, q3, q4, qlt, hbel⟩ := qry_cells HB2.out
            by_cases hy2 : y2 = 0
            · have by2 : (y2 != 0) = false := by simpa using hy2
              have hx := HX3.out
              rw [if_neg (by simpa using hy2)] at hx
              have HX4 := hid hx
              clear HX3 hx
              subst hy2
              go_wp2_with fail
              refine (C3 _ (HQ.out.below hbel) h6 HN.out).out.mono ?_
              rintro e w3 ⟨rfl, b3⟩
              have HB3 := hid (HB2.out.trans (b3.mono (by omega)))
              clear C3 b3 HB2 q0 q1 q2 q3 q4 qlt hbel
              obtain ⟨q0, q1, q2, q3, q4, qlt, hbel⟩ := qry_cells HB3.out
              by_cases hy3 : y3 = 0
              · have by3 : (y3 != 0) = false := by simpa using hy3
                have hx := HX4.out
                rw [if_neg (by simpa using hy3)] at hx
                subst hx hy3
                clear HX4
                go_wp2_with fail
                refine (C4 _ (HQ.out.below hbel)).out.mono ?_
                rintro e w4 ⟨rfl, b4⟩
                have hb4 := hbel.trans (b4.mono hbel.size)
                clear C4
                go_wp2
                go_ret
                exact ⟨rfl, hb4⟩
              · have by3 : (y3 != 0) = true := by simpa using hy3
                have hx := HX4.out
                rw [if_pos (by simpa using hy3)] at hx
                subst hx
                clear HX4 C4 hy3
                go_wp2
                go_ret
                exact ⟨rfl, hbel⟩
            · have by2 : (y2 != 0) = true := by simpa using hy2
              have hx := HX3.out
              rw [if_pos (by simpa using hy2)] at hx
              subst hx
              clear HX3 C3 C4 hy2
              go_wp2
              go_ret
              exact ⟨rfl, hbel⟩
          · have by1 : (y1 != 0) = true := by simpa using hy1
            have hx := HX2.out
            rw [if_pos (by simpa using hy1)] at hx
            subst hx
            clear HX2 C2 C3 C4 hy1
            go_wp2
            go_ret
            exact ⟨rfl, hb0⟩

/-- What holds of a query that Check accepts. -/
theorem check_parts {q : Qry} (h : checkQ q = 0) : q.rules ≠ [] ∧ q.rules.length ≤ 3 ∧ ¬ (1 < q.rules.length ∧ q.agg ≠ 0) ∧ headE q.head = 0 ∧ aggE q = 0 ∧ firstE (ruleE q) q.rules = 0 ∧ orderE q = 0 := by
  unfold checkQ at h
  by_cases h0 : q.rules = []
  · rw [if_pos h0] at h; exact absurd h (by decide)
  · rw [if_neg h0] at h
    by_cases h1 : 3 < q.rules.length ∨ (1 < q.rules.length ∧ q.agg ≠ 0)
    · rw [if_pos h1] at h; exact absurd h (by decide)
    · rw [if_neg h1] at h
      by_cases h2 : headE q.head = 0
      · rw [if_neg (by simpa using h2)] at h
        by_cases h3 : aggE q = 0
        · rw [if_neg (by simpa using h3)] at h
          by_cases h4 : firstE (ruleE q) q.rules = 0
          · rw [if_neg (by simpa using h4)] at h
            exact ⟨h0, by omega, fun e => h1 (.inr e), h2, h3, h4, h⟩
          · rw [if_pos h4] at h; exact absurd h h4
        · rw [if_pos h3] at h; exact absurd h h3
      · rw [if_pos h2] at h; exact absurd h h2
theorem rule_items_zero {q : Qry} {r : Rul} (h : ruleE q r = 0) : itemsE r = 0 := by
  by_cases h1 : itemsE r = 0
  · exact h1
  · rw [rule_items h1] at h; exact absurd h h1
theorem check_few {q : Qry} (h : checkQ q = 0) : (0 < q.rules.length ∧ q.rules.length ≤ 3) ∧ ∀ r ∈ q.rules, r.few := by
  obtain ⟨h0, h1, _, _, _, h4, _⟩ := check_parts h
  exact ⟨⟨List.length_pos_iff.2 h0, h1⟩, fun r hr => few_of_items (rule_items_zero (firstE_zero h4 r hr))⟩
theorem check_head {q : Qry} (h : checkQ q = 0) : q.head.length ≤ 6 := (headE_zero (check_parts h).2.2.2.1).1
end
end Go.Proofs.YtjhnopnppimnhaaGreatDoor
