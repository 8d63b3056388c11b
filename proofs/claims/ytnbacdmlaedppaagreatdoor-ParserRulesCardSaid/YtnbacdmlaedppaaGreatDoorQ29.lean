/-
  PARTS of a claim, merged by segs.py: PgK.
-/
import Derived.Test.YtnbacdmlaedppaaGreatDoorQ21
import Derived.Test.YtnbacdmlaedppaaGreatDoorQ22
namespace Go.Proofs.YtnbacdmlaedppaaGreatDoor

/-! ### PgK -/
section
open Go.RowKit

def PgKR (W0 : World) (bp bq B : Nat) (v0 v1 v2 v3 : Value) (i : Nat) (s : List Ky) (W : World) : Prop :=
  ∃ u, W.heap[bq]? = some (.cells #[v0, v1, v2, v3, u] 27) ∧ W.ownsRow B 37 2 u s.length (s.flatMap cellsK) ∧ Chg [bp, bq] W0 W ∧ s.length ≤ i ∧ B ≤ W.heap.size
theorem PgKR.on {W0 : World} {bp bq gp gq B i j : Nat} {v0 v1 v2 v3 : Value} {s : List Ky} {W W' : World} (l : LayQ W0 bp bq gp gq B) (h : PgKR W0 bp bq B v0 v1 v2 v3 i s W) (hc : Chg [bp] W W') (hj : i ≤ j) : PgKR W0 bp bq B v0 v1 v2 v3 j s W' := by
  obtain ⟨u, h1, h2, h3, h4, h5⟩ := h
  have := l.pq; have := l.q0; have := l.B0
  exact ⟨u, (hc.block bq (lt_of_block h1) (by simp; omega)).trans h1, hc.ownS h2 (fun s hs => by simp at hs; omega), h3.then hc (fun t ht => .inl (by simp at ht; simp [ht])), by omega, Nat.le_trans h5 hc.size⟩
def KyQ (bp : Nat) (A : Option Addr) (c : Nat) (L : List Tok) (y : Out Ky) (q : Bool) (a : Ky) (w : World) : Prop := match y with
  | .bad b => q = false ∧ PW bp A c L b w
  | .ok x nx => q = true ∧ PW bp A c L nx w ∧ x = a
section
variable {bp c : Nat} {A : Option Addr} {L : List Tok}
set_option maxRecDepth 100000 in
set_option maxHeartbeats 2000000 in
theorem prs_key2 {W0 : World} {bq gp gq B i : Nat} {v0 v1 v2 v3 : Value} {s : List Ky} {W : World} (l : LayQ W0 bp bq gp gq B) (hp : PW bp A c L i W) (hr : PgKR W0 bp bq B v0 v1 v2 v3 i s W) :
    Calls Tryz.prog 48 #[.pointer (some ⟨gp, 0, none⟩), .pointer (some ⟨gq, 0, none⟩)] W (RetE bp A c L (keyStep (tkL L) i s) (QuB W0 bp bq) (PgKR W0 bp bq B v0 v1 v2 v3)) := by
  obtain ⟨i0, hi0, hz0, hz1, hz2⟩ := info_parts infoKyP
  have l1 := l.pq; have l2 := l.q0; have l3 := l.B0; have l4 := l.pp; have l5 := l.qq; have l6 := lt_of_block l.hp; have l7 := lt_of_block l.hq
  have hf := hp.few
  have hi := hp.lt
  have HEn := hid hp.ended
  obtain ⟨u, h1, h2, h5, h6, h7⟩ := hr
  have hl3 : gp < W.heap.size := Nat.lt_of_lt_of_le (lt_of_block l.hp) h5.size
  have hl4 : gq < W.heap.size := Nat.lt_of_lt_of_le (lt_of_block l.hq) h5.size
  have h3 : W.heap[gp]? = some (.cells #[.pointer (some ⟨bp, 0, none⟩)] 69) := (h5.block gp (lt_of_block l.hp) (by simp; omega)).trans l.hp
  have h4 : W.heap[gq]? = some (.cells #[.pointer (some ⟨bq, 0, none⟩)] 73) := (h5.block gq (lt_of_block l.hq) (by simp; omega)).trans l.hq
  have k0 := below_one W (.cells #[.string ⟨#[]⟩, .bool false] 37)
  have hbt := heap_alloc_new W (.cells #[.string ⟨#[]⟩, .bool false] 37)
  obtain ⟨W1, hW1⟩ : ∃ W1, W.alloc (.cells #[.string ⟨#[]⟩, .bool false] 37) = W1 := ⟨_, rfl⟩
  rw [hW1] at k0 hbt
  have hsz : W1.heap.size = W.heap.size + 1 := by rw [← hW1]; simp
  have P1 := hid (hp.below k0)
  have hl1 := lt_of_block h1
  have hlp := hp.block_lt
  obtain ⟨Au, cu, rfl⟩ : ∃ Au cu, u = .slice Au s.length cu := own_shape h2
  have HK := hid (fun (W' : World) (cw : Chg [bp, W.heap.size] W1 W') => (show W'.heap[bq]? = some (.cells #[v0, v1, v2, v3, (.slice Au s.length cu)] 27) ∧ W'.ownsRow B 37 2 (.slice Au s.length cu) s.length (s.flatMap cellsK) ∧ W'.heap[gp]? = some (.cells #[.pointer (some ⟨bp, 0, none⟩)] 69) ∧ W'.heap[gq]? = some (.cells #[.pointer (some ⟨bq, 0, none⟩)] 73) ∧ Chg [bp, bq] W0 W' ∧ W1.heap.size ≤ W'.heap.size from by
    have hcw : Chg [bp] W W' := (chg_below k0).then cw (fun t ht => by simp at ht; rcases ht with ht | ht <;> simp [ht])
    have e : ∀ g, g ≠ bp → g < W.heap.size → W'.heap[g]? = W.heap[g]? := fun g hg hl => hcw.block g hl (by simp; exact hg)
    exact ⟨(e bq (by omega) hl1).trans h1, hcw.ownS h2 (fun s hs => by simp at hs; omega), (e gp (by omega) hl3).trans h3, (e gq (by omega) hl4).trans h4, h5.then hcw (fun t ht => .inl (by simp at ht; simp [ht])), cw.size⟩))
  have c1 := box_cell ((k0.block gp hl3).trans h3) 0
  have HA := hid hW1
  have HOB : Hid (∀ b, Value.ownBlock (.slice Au s.length cu) = some b → B ≤ b ∧ b < W.heap.size) := hid (own_base h2)
  obtain ⟨z, hz⟩ : ∃ z, ((tkL L i).k == 1) = z := ⟨_, rfl⟩
  obtain ⟨d, hd⟩ : ∃ d, isT (tkL L (i + 1)) sDesc = d := ⟨_, rfl⟩
  have HN := hid (prs_name (bn := W.heap.size) (o := 0) (Z := ⟨#[]⟩) P1.out hbt rfl (by omega) hz)
  have HSk := hid (fun V (p : PW bp A c L (i + 1) V) => prs_skipn p (s := sDesc) (by decide) hd rfl)
  obtain ⟨y, hy⟩ : ∃ y : Out Ky, y = if z = true then (if d = true then .ok ⟨(tkL L i).t, true⟩ (i + 2) else .ok ⟨(tkL L i).t, false⟩ (i + 1)) else .bad i := ⟨_, rfl⟩
  have hst : keyStep (tkL L) i s = snocO y s := by
    unfold keyStep snocO
    rw [hy]
    by_cases hk : (tkL L i).k = 1
    · have hz1 : z = true := by rw [← hz]; simpa using hk
      rw [if_neg (by simpa using hk), hz1, hd]
      cases d <;> rfl
    · have hz1 : z = false := by rw [← hz]; simpa using hk
      rw [if_pos hk, hz1]; rfl
  have HNx : Hid (∀ x nx, y = .ok x nx → i < nx) := hid (fun x nx e => by
    rw [hy] at e
    split at e
    · split at e <;> injection e with _ e <;> omega
    · cases e)
  rw [hst]
  clear h1 h2 h3 h4 h5 hp k0 hbt hW1 hz hst hd
  generalize tkL L i = t at *
  have HY := hid hy
  clear hy
  go_enter Tryz.func48, Tryz.ntmps48
  go_wp2_with (first | rw [HA.out] | fail)
  refine HN.out.mono ?_
  rintro e w2 ⟨rfl, p2, b2, c2⟩
  have H2 := hid (And.intro p2 (And.intro b2 c2))
  clear p2 b2 c2 HN c1
  go_upto_region 3 with fail
  go_cut [] (fun wx => ∃ (a : Str) (b : Bool), Hid (wx.heap[W.heap.size]? = some (.cells #[.string ⟨a.toArray⟩, .bool b] 37) ∧ (wx.heap[bq]? = some (.cells #[v0, v1, v2, v3, .slice Au s.length cu] 27) ∧ wx.ownsRow B 37 2 (.slice Au s.length cu) s.length (s.flatMap cellsK) ∧ wx.heap[gp]? = some (.cells #[.pointer (some ⟨bp, 0, none⟩)] 69) ∧ wx.heap[gq]? = some (.cells #[.pointer (some ⟨bq, 0, none⟩)] 73) ∧ Chg [bp, bq] W0 wx ∧ W1.heap.size ≤ wx.heap.size) ∧ KyQ bp A c L y z ⟨a, b⟩ wx))
  case first =>
    cases z with
    | true =>
      simp only [if_true] at HY H2
      obtain ⟨p2, b2, c2⟩ := H2.out
      have b2' : w2.heap[W.heap.size]? = some (.cells #[.string ⟨t.t.toArray⟩, .bool false] 37) := b2
      have cp := box_cell (HK.out w2 c2).2.2.1 0
      have lp := lt_of_block (HK.out w2 c2).2.2.1
      have hl2 := lt_of_block b2'
      have HS2 := hid (HSk.out w2 p2)
      have B2 := hid (And.intro b2' c2)
      clear p2 b2 c2 b2' H2 HSk
      go_wp2_with fail
      refine HS2.out.mono ?_
      rintro e w3 ⟨rfl, p3, c3⟩
      have b3 := (c3.block W.heap.size hl2 (by simp; omega)).trans B2.out.1
      have e3 := box_cell b3 1
      have f3 := box_free b3 1
      have l3' := lt_of_block b3
      have C3 := (B2.out.2.trans (c3.mono (T := [bp, W.heap.size]) (fun s hs => by simp at hs; simp [hs]))).set (b := W.heap.size) (.inl (by simp)) 1 (.bool d)
      have HF := hid (And.intro (heap_setCell_same w3 W.heap.size 1 _ _ (.bool d) b3) (And.intro (HK.out _ C3) (p3.chg ((Chg.refl [W.heap.size] w3).set (b := W.heap.size) (.inl (by simp)) 1 (.bool d)) (fun s hs => by simp at hs; omega))))
      clear p3 c3 b3 C3 HS2 B2 HK cp lp hl2
      go_wp2_with fail
      go_meet
      exact ⟨t.t, d, hid ⟨HF.out.1, HF.out.2.1, by
        rw [HY.out]
        cases d with
        | true => exact And.intro rfl (And.intro HF.out.2.2 rfl)
        | false => exact And.intro rfl (And.intro HF.out.2.2 rfl)⟩⟩
    | false =>
      simp only [Bool.false_eq_true, if_false] at HY H2
      obtain ⟨p2, b2, c2⟩ := H2.out
      have e3 := box_cell b2 1
      have f3 := box_free b2 1
      have l3' := lt_of_block b2
      have C3 := c2.set (b := W.heap.size) (.inl (by simp)) 1 (.bool false)
      have HF := hid (And.intro (heap_setCell_same w2 W.heap.size 1 _ _ (.bool false) b2) (And.intro (HK.out _ C3) (p2.chg ((Chg.refl [W.heap.size] w2).set (b := W.heap.size) (.inl (by simp)) 1 (.bool false)) (fun s hs => by simp at hs; omega))))
      clear p2 b2 c2 C3 H2 HK HSk
      go_wp2_with fail
      go_meet
      exact ⟨[], false, hid ⟨HF.out.1, HF.out.2.1, by rw [HY.out]; exact And.intro rfl HF.out.2.2⟩⟩
  case rest =>
    obtain ⟨a, b, HF⟩ := hcut
    obtain ⟨w4, rfl⟩ : ∃ w4 : World, w4 = wc := ⟨_, rfl⟩
    clear HK HA P1 H2 HSk HY
    obtain ⟨bt, ⟨g1, g2, g3, g4, g5, g6⟩, hq⟩ := HF.out
    have gown := g2
    have hb1 := lt_of_block g1
    have hb2 := lt_of_block bt
    have hb4 := lt_of_block g4
    have d0 := box_cell HF.out.1 0
    have d1 := box_cell HF.out.1 1
    have e1 := box_cell g4 0
    have e2 := box_cell g1 4
    have hgt : W.heap.size ≠ bq := by omega
    have hlen : (s.length + 1) * 24 ≤ 140737488355328 := by omega
    have hBc : B ≤ w4.heap.size := by omega
    clear g1 g3 g4 g5 bt hq
    go_upto_region 4 with fail
    go_cut [] (fun wx => Hid (∃ g8 cap8, wx.heap[bq]? = some (.cells #[v0, v1, v2, v3, (.slice (some ⟨g8, 0, none⟩) (s.length + 1) cap8)] 27) ∧ Chg [bp, bq] W0 wx ∧ (∀ j, PW bp A c L j w4 → PW bp A c L j wx) ∧ w4.heap.size ≤ wx.heap.size ∧ wx.ownsRow B 37 2 (.slice (some ⟨g8, 0, none⟩) (s.length + 1) cap8) (s.length + 1) (s.flatMap cellsK ++ [.string ⟨a.toArray⟩, .bool b])))
    case first =>
      have HFin := hid (fun (w8 : World) (g8 cap8 : Nat) (hown8 : w8.ownsRow B 37 2 (.slice (some ⟨g8, 0, none⟩) (s.length + 1) cap8) (s.length + 1) (s.flatMap cellsK ++ [.string ⟨a.toArray⟩, .bool b])) (hg8 : w4.grownBy w8 (Value.ownBlock (.slice Au s.length cu))) =>
        (show Hid (∃ g8' cap8', (w8.setCell ⟨bq, 4, none⟩ (.slice (some ⟨g8, 0, none⟩) (s.length + 1) cap8)).heap[bq]? = some (.cells #[v0, v1, v2, v3, (.slice (some ⟨g8', 0, none⟩) (s.length + 1) cap8')] 27) ∧ Chg [bp, bq] W0 (w8.setCell ⟨bq, 4, none⟩ (.slice (some ⟨g8, 0, none⟩) (s.length + 1) cap8)) ∧ (∀ j, PW bp A c L j w4 → PW bp A c L j (w8.setCell ⟨bq, 4, none⟩ (.slice (some ⟨g8, 0, none⟩) (s.length + 1) cap8))) ∧ w4.heap.size ≤ (w8.setCell ⟨bq, 4, none⟩ (.slice (some ⟨g8, 0, none⟩) (s.length + 1) cap8)).heap.size ∧ (w8.setCell ⟨bq, 4, none⟩ (.slice (some ⟨g8, 0, none⟩) (s.length + 1) cap8)).ownsRow B 37 2 (.slice (some ⟨g8', 0, none⟩) (s.length + 1) cap8') (s.length + 1) (s.flatMap cellsK ++ [.string ⟨a.toArray⟩, .bool b])) from hid (by
          obtain ⟨bt, ⟨g1, g2, g3, g4, g5, g6⟩, _⟩ := HF.out
          have hx : ∀ b, Value.ownBlock (.slice Au s.length cu) = some b → B ≤ b := fun b e => (HOB.out b e).1
          have hb8 := (hg8.block bq (lt_of_block g1) (fun e => by have := hx bq e.symm; omega)).trans g1
          have hg9 := ren_set w8 bq 4 (.slice (some ⟨g8, 0, none⟩) (s.length + 1) cap8)
          refine ⟨g8, cap8, heap_setCell_same w8 bq 4 _ _ _ hb8, (g5.grown hg8 (fun b e => .inr (by have := hx b e; omega))).set (.inl (by simp)) 4 _, fun j P => (app_store (o := 4) (v8 := (.slice (some ⟨g8, 0, none⟩) (s.length + 1) cap8)) P g5 (.inl (by simp)) (by omega) g1 (by omega) (by omega) hx hg8).1, by simp only [World.setCell, Array.size_modify]; exact hg8.size, ?_⟩
          exact hown8.kept hg9 (ren_apart hown8 (qbox_own hb8) (by decide)))))
      go_region_law (refine step_append_new_drew Tryz.underlying25 hi0 hz0 hz1 hz2 rfl (by decide) (by decide) rfl rfl rfl gown rfl rfl rfl hlen hBc ?_; intro v8 w8 hown8 hg8; obtain ⟨g8, cap8, rfl⟩ := own_slice1 hown8; have m2 := box_cell ((hg8.block bq hb1 (fun e => by have := (HOB.out bq e.symm).1; omega)).trans HF.out.2.1.1) 4; have f82 := box_free ((hg8.block bq hb1 (fun e => by have := (HOB.out bq e.symm).1; omega)).trans HF.out.2.1.1) 4; have m1 := box_cell ((hg8.block gq hb4 (fun e => by have := (HOB.out gq e.symm).1; omega)).trans HF.out.2.1.2.2.2.1) 0; have HFin8 := HFin.out w8 g8 cap8 hown8 ⟨hg8.os, hg8.tape, hg8.output, hg8.size, hg8.block⟩)
      all_goals (go_wp2_with fail; go_meet; exact HFin8)
    case rest =>
      have HQ := hid HF.out.2.2
      have hBx : B ≤ wc.heap.size := by have := hcut.out.choose_spec.choose_spec.2.2.2.1; omega
      clear HF HOB gown hlen hBc d0 d1 e1 e2 hb1 hb2 hb4
      obtain ⟨g8, cap8, r1, r2, r3, r4, r5⟩ := hcut.out
      cases y with
      | bad b =>
        obtain ⟨rfl, hq⟩ := HQ.out
        have HG := hid (And.intro (r3 _ hq) r2)
        clear r1 r2 r3 r4 r5 hq HQ hcut
        go_wp2
        go_ret
        exact ⟨rfl, HG.out.1, HG.out.2⟩
      | ok x nx =>
        obtain ⟨rfl, hq, hcs⟩ := HQ.out
        have hnx := HNx.out x nx rfl
        have HG := hid (And.intro (r3 _ hq) (And.intro r1 (And.intro r2 (show wc.ownsRow B 37 2 (.slice (some ⟨g8, 0, none⟩) (s.length + 1) cap8) (s.length + 1) (s.flatMap cellsK ++ cellsK x) from by rw [hcs]; exact r5))))
        clear r1 r2 r3 r5 hq HQ hcut hcs
        go_wp2
        go_ret
        obtain ⟨q1, q2, q3, q4⟩ := HG.out
        exact ⟨rfl, q1, ⟨_, q2, by simpa using q4, q3, by simp; omega, hBx⟩⟩
end
end
end Go.Proofs.YtnbacdmlaedppaaGreatDoor
