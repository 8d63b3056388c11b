/-
  PARTS of a claim, merged by segs.py: PgU.
-/
import Derived.Test.YtjhnopnppimnhaaGreatDoorZ23
import Derived.Test.YtjhnopnppimnhaaGreatDoorZ25
import Derived.Test.YtjhnopnppimnhaaGreatDoorZ26
namespace Go.Proofs.YtjhnopnppimnhaaGreatDoor

/-! ### PgU -/
section
open Go.RowKit

def PgUR (W0 : World) (bp bq B : Nat) (v0 v1 v2 v4 : Value) (i : Nat) (s : List Rul) (W : World) : Prop :=
  ∃ u, W.heap[bq]? = some (.cells #[v0, v1, v2, u, v4] 95) ∧ OwnRls W B u s ∧ Chg [bp, bq] W0 W ∧ s.length ≤ i ∧ B ≤ W.heap.size
theorem PgUR.on {W0 : World} {bp bq gp gq B i j : Nat} {v0 v1 v2 v4 : Value} {s : List Rul} {W W' : World} (l : LayQ W0 bp bq gp gq B) (h : PgUR W0 bp bq B v0 v1 v2 v4 i s W) (hc : Chg [bp] W W') (hj : i ≤ j) : PgUR W0 bp bq B v0 v1 v2 v4 j s W' := by
  obtain ⟨u, h1, h2, h3, h4, h5⟩ := h
  have := l.pq; have := l.q0; have := l.B0
  exact ⟨u, (hc.block bq (lt_of_block h1) (by simp; omega)).trans h1, h2.chg hc (fun s hs => by simp at hs; omega), h3.then hc (fun t ht => .inl (by simp at ht; simp [ht])), by omega, Nat.le_trans h5 hc.size⟩
def RlQ (bp : Nat) (A : Option Addr) (c : Nat) (L : List Tok) (B : Nat) (y : Out Rul) (q : Bool) (X1 : Option Addr) (m1 y1 : Nat) (X2 : Option Addr) (m2 y2 : Nat) (w : World) : Prop := match y with
  | .bad b => q = false ∧ PW bp A c L b w
  | .ok x nx => q = true ∧ PW bp A c L nx w ∧ OwnRl w B (.slice X1 m1 y1) (.slice X2 m2 y2) x
section
variable {bp c : Nat} {A : Option Addr} {L : List Tok}
set_option maxRecDepth 100000 in
set_option maxHeartbeats 2000000 in
theorem prs_query1 {W0 : World} {bq gp gq B i : Nat} {v0 v1 v2 v4 : Value} {s : List Rul} {W : World} (l : LayQ W0 bp bq gp gq B) (hp : PW bp A c L i W) (hr : PgUR W0 bp bq B v0 v1 v2 v4 i s W) :
    Calls Tryz.prog 84 #[.pointer (some ⟨gp, 0, none⟩), .pointer (some ⟨gq, 0, none⟩)] W (RetE bp A c L (ruleStep (tkL L) L.length i s) (QuB W0 bp bq) (PgUR W0 bp bq B v0 v1 v2 v4)) := by
  obtain ⟨i0, hi0, hz0, hz1, hz2⟩ := info_parts infoRlP2
  have l1 := l.pq; have l2 := l.q0; have l3 := l.B0; have l4 := l.pp; have l5 := l.qq; have l6 := lt_of_block l.hp; have l7 := lt_of_block l.hq
  have hf := hp.few
  have hi := hp.lt
  have HEn := hid hp.ended
  obtain ⟨u, h1, h2, h5, h6, h7⟩ := hr
  have hl3 : gp < W.heap.size := Nat.lt_of_lt_of_le (lt_of_block l.hp) h5.size
  have hl4 : gq < W.heap.size := Nat.lt_of_lt_of_le (lt_of_block l.hq) h5.size
  have h3 : W.heap[gp]? = some (.cells #[.pointer (some ⟨bp, 0, none⟩)] 111) := (h5.block gp (lt_of_block l.hp) (by simp; omega)).trans l.hp
  have h4 : W.heap[gq]? = some (.cells #[.pointer (some ⟨bq, 0, none⟩)] 115) := (h5.block gq (lt_of_block l.hq) (by simp; omega)).trans l.hq
  have k0 := below_one W (.cells #[.slice none 0 0, .slice none 0 0] 142)
  have hbt := heap_alloc_new W (.cells #[.slice none 0 0, .slice none 0 0] 142)
  obtain ⟨W1, hW1⟩ : ∃ W1, W.alloc (.cells #[.slice none 0 0, .slice none 0 0] 142) = W1 := ⟨_, rfl⟩
  rw [hW1] at k0 hbt
  have hsz : W1.heap.size = W.heap.size + 1 := by rw [← hW1]; simp
  have P1 := hid (hp.below k0)
  have hl1 := lt_of_block h1
  have hlp := hp.block_lt
  obtain ⟨Au, cu, rfl⟩ : ∃ Au cu, u = .slice Au s.length cu := (let ⟨_, _, _, _, h, _⟩ := h2; own_shape h)
  have HK := hid (fun (W' : World) (cw : Chg [bp, W.heap.size] W1 W') => (show W'.heap[bq]? = some (.cells #[v0, v1, v2, (.slice Au s.length cu), v4] 95) ∧ OwnRls W' B (.slice Au s.length cu) s ∧ W'.heap[gp]? = some (.cells #[.pointer (some ⟨bp, 0, none⟩)] 111) ∧ W'.heap[gq]? = some (.cells #[.pointer (some ⟨bq, 0, none⟩)] 115) ∧ Chg [bp, bq] W0 W' ∧ W1.heap.size ≤ W'.heap.size from by
    have hcw : Chg [bp] W W' := (chg_below k0).then cw (fun t ht => by simp at ht; rcases ht with ht | ht <;> simp [ht])
    have e : ∀ g, g ≠ bp → g < W.heap.size → W'.heap[g]? = W.heap[g]? := fun g hg hl => hcw.block g hl (by simp; exact hg)
    exact ⟨(e bq (by omega) hl1).trans h1, h2.chg hcw (fun s hs => by simp at hs; omega), (e gp (by omega) hl3).trans h3, (e gq (by omega) hl4).trans h4, h5.then hcw (fun t ht => .inl (by simp at ht; simp [ht])), cw.size⟩))
  have c1 := box_cell ((k0.block gp hl3).trans h3) 0
  have HA := hid hW1
  have HOB : Hid (∀ b, Value.ownBlock (.slice Au s.length cu) = some b → B ≤ b ∧ b < W.heap.size) := hid (let ⟨_, _, _, _, h, _⟩ := h2; own_base h)
  obtain ⟨y, hy⟩ : ∃ y, ruleG (tkL L) L.length L.length i ⟨[], []⟩ = y := ⟨_, rfl⟩
  have HN := hid (prs_rule P1.out hbt (by omega) hy)
  have hst : ruleStep (tkL L) L.length i s = snocO y s := by
    unfold ruleStep snocO
    rw [hy]
    cases y <;> rfl
  have HNx : Hid (∀ x nx, y = .ok x nx → i < nx) := hid (fun x nx e => (ruleS_nx HEn.out (hy.trans e)).1)
  rw [hst]
  clear h1 h2 h3 h4 h5 hp k0 hbt hW1 hst hy
  go_enter Tryz.func84, Tryz.ntmps84
  go_upto_region 2 with (rw [HA.out])
  go_cut [4] (fun sl wx => ∃ (q : Bool) (X1 : Option Addr) (m1 y1 : Nat) (X2 : Option Addr) (m2 y2 : Nat), sl = .bool q ∧ Hid (wx.heap[W.heap.size]? = some (.cells #[.slice X1 m1 y1, .slice X2 m2 y2] 142) ∧ (wx.heap[bq]? = some (.cells #[v0, v1, v2, .slice Au s.length cu, v4] 95) ∧ OwnRls wx B (.slice Au s.length cu) s ∧ wx.heap[gp]? = some (.cells #[.pointer (some ⟨bp, 0, none⟩)] 111) ∧ wx.heap[gq]? = some (.cells #[.pointer (some ⟨bq, 0, none⟩)] 115) ∧ Chg [bp, bq] W0 wx ∧ W1.heap.size ≤ wx.heap.size) ∧ RlQ bp A c L B y q X1 m1 y1 X2 m2 y2 wx))
  case first =>
    cases y with
    | ok x nx =>
      go_wp2_with fail
      refine HN.out.mono ?_
      rintro e w2 ⟨⟨rfl, p2, Aa, ca, Ac, cc, b2, r2⟩, c2⟩
      have HF := hid (And.intro b2 (And.intro (HK.out w2 c2) (And.intro p2 (show OwnRl w2 B _ _ x from ⟨r2.1.mono (by omega), ren_mono r2.2 (by omega)⟩))))
      clear p2 b2 c2 r2 HN HK
      go_wp2_with fail
      go_meet
      exact ⟨true, Aa, x.atoms.length, ca, Ac, x.conds.length, cc, rfl, hid ⟨HF.out.1, HF.out.2.1, And.intro rfl (And.intro HF.out.2.2.1 HF.out.2.2.2)⟩⟩
    | bad b =>
      go_wp2_with fail
      refine HN.out.mono ?_
      rintro e w2 ⟨⟨rfl, p2, A1, n1, c1', A2, n2, c2', b2⟩, c2⟩
      have HF := hid (And.intro b2 (And.intro (HK.out w2 c2) p2))
      clear p2 b2 c2 HN HK
      go_wp2_with fail
      go_meet
      exact ⟨false, A1, n1, c1', A2, n2, c2', rfl, hid ⟨HF.out.1, HF.out.2.1, And.intro rfl HF.out.2.2⟩⟩
  case rest =>
    obtain ⟨q, X1, m1, y1, X2, m2, y2, rfl, HF⟩ := hcut
    obtain ⟨w4, rfl⟩ : ∃ w4 : World, w4 = wc := ⟨_, rfl⟩
    clear HK HA P1 c1
    obtain ⟨bt, ⟨g1, g2, g3, g4, g5, g6⟩, hq⟩ := HF.out
    obtain ⟨us, vs, hu0, hu1, gown, hu3⟩ := g2
    have HUV := hid (And.intro hu0 (And.intro hu1 (And.intro gown hu3)))
    clear hu0 hu1 hu3
    have hb1 := lt_of_block g1
    have hb2 := lt_of_block bt
    have hb4 := lt_of_block g4
    have d0 := box_cell HF.out.1 0
    have d1 := box_cell HF.out.1 1
    have e1 := box_cell g4 0
    have e2 := box_cell g1 3
    have hgt : W.heap.size ≠ bq := by omega
    have hlen : (s.length + 1) * 48 ≤ 140737488355328 := by omega
    have hBc : B ≤ w4.heap.size := by omega
    clear g1 g3 g4 g5 bt hq
    go_upto_region 3 with fail
    go_cut [] (fun wx => Hid (∃ g8 cap8, wx.heap[bq]? = some (.cells #[v0, v1, v2, (.slice (some ⟨g8, 0, none⟩) (s.length + 1) cap8), v4] 95) ∧ Chg [bp, bq] W0 wx ∧ (∀ j, PW bp A c L j w4 → PW bp A c L j wx) ∧ w4.heap.size ≤ wx.heap.size ∧ ∀ r : Rul, OwnRl w4 B (.slice X1 m1 y1) (.slice X2 m2 y2) r → OwnRls wx B (.slice (some ⟨g8, 0, none⟩) (s.length + 1) cap8) (s ++ [r])))
    case first =>
      have HFin := hid (fun (w8 : World) (g8 cap8 : Nat) (hown8 : w8.ownsRow B 142 2 (.slice (some ⟨g8, 0, none⟩) (s.length + 1) cap8) (s.length + 1) (rlC us vs ++ [.slice X1 m1 y1, .slice X2 m2 y2])) (hg8 : w4.grownBy w8 (Value.ownBlock (.slice Au s.length cu))) =>
        (show Hid (∃ g8' cap8', (w8.setCell ⟨bq, 3, none⟩ (.slice (some ⟨g8, 0, none⟩) (s.length + 1) cap8)).heap[bq]? = some (.cells #[v0, v1, v2, (.slice (some ⟨g8', 0, none⟩) (s.length + 1) cap8'), v4] 95) ∧ Chg [bp, bq] W0 (w8.setCell ⟨bq, 3, none⟩ (.slice (some ⟨g8, 0, none⟩) (s.length + 1) cap8)) ∧ (∀ j, PW bp A c L j w4 → PW bp A c L j (w8.setCell ⟨bq, 3, none⟩ (.slice (some ⟨g8, 0, none⟩) (s.length + 1) cap8))) ∧ w4.heap.size ≤ (w8.setCell ⟨bq, 3, none⟩ (.slice (some ⟨g8, 0, none⟩) (s.length + 1) cap8)).heap.size ∧ ∀ r : Rul, OwnRl w4 B (.slice X1 m1 y1) (.slice X2 m2 y2) r → OwnRls (w8.setCell ⟨bq, 3, none⟩ (.slice (some ⟨g8, 0, none⟩) (s.length + 1) cap8)) B (.slice (some ⟨g8', 0, none⟩) (s.length + 1) cap8') (s ++ [r])) from hid (by
          obtain ⟨bt, ⟨g1, g2, g3, g4, g5, g6⟩, _⟩ := HF.out
          have hx : ∀ b, Value.ownBlock (.slice Au s.length cu) = some b → B ≤ b := fun b e => (HOB.out b e).1
          have hb8 := (hg8.block bq (lt_of_block g1) (fun e => by have := hx bq e.symm; omega)).trans g1
          have hg9 := ren_set w8 bq 3 (.slice (some ⟨g8, 0, none⟩) (s.length + 1) cap8)
          refine ⟨g8, cap8, heap_setCell_same w8 bq 3 _ _ _ hb8, (g5.grown hg8 (fun b e => .inr (by have := hx b e; omega))).set (.inl (by simp)) 3 _, fun j P => (app_store (o := 3) (v8 := (.slice (some ⟨g8, 0, none⟩) (s.length + 1) cap8)) P g5 (.inl (by simp)) (by omega) g1 (by omega) (by omega) hx hg8).1, by simp only [World.setCell, Array.size_modify]; exact hg8.size, ?_⟩
          intro r hr
          obtain ⟨hu0, hu1, gown, hu3⟩ := HUV.out
          exact (OwnRls.push hu0 hu1 gown hu3 hr.1 hr.2 hg8 rfl hown8).kept (qbox_own hb8) (by decide) hg9)))
      go_region_law (refine step_append_new_drew Tryz.underlying92 hi0 hz0 hz1 hz2 rfl (by decide) (by decide) rfl rfl rfl gown rfl rfl rfl hlen hBc ?_; intro v8 w8 hown8 hg8; obtain ⟨g8, cap8, rfl⟩ := own_slice1 hown8; have m2 := box_cell ((hg8.block bq hb1 (fun e => by have := (HOB.out bq e.symm).1; omega)).trans HF.out.2.1.1) 3; have f82 := box_free ((hg8.block bq hb1 (fun e => by have := (HOB.out bq e.symm).1; omega)).trans HF.out.2.1.1) 3; have m1 := box_cell ((hg8.block gq hb4 (fun e => by have := (HOB.out gq e.symm).1; omega)).trans HF.out.2.1.2.2.2.1) 0; have HFin8 := HFin.out w8 g8 cap8 hown8 ⟨hg8.os, hg8.tape, hg8.output, hg8.size, hg8.block⟩)
      all_goals (go_wp2_with fail; go_meet; exact HFin8)
    case rest =>
      have HQ := hid HF.out.2.2
      have hBx : B ≤ wc.heap.size := by have := hcut.out.choose_spec.choose_spec.2.2.2.1; omega
      clear HF HOB gown hlen hBc d0 d1 e1 e2 hb1 hb2 hb4
      obtain ⟨g8, cap8, r1, r2, r3, r4, r5⟩ := hcut.out
      cases y with
      | bad b =>
        obtain ⟨rfl, hq⟩ := HQ.out
        have HG := hid (And.intro (r3 _ hq) r2)
        clear r1 r2 r3 r4 r5 hq HQ hcut
        go_wp2
        go_ret
        exact ⟨rfl, HG.out.1, HG.out.2⟩
      | ok x nx =>
        obtain ⟨rfl, hq, hcs⟩ := HQ.out
        have hnx := HNx.out x nx rfl
        have HG := hid (And.intro (r3 _ hq) (And.intro r1 (And.intro r2 (r5 x hcs))))
        clear r1 r2 r3 r5 hq HQ hcut hcs
        go_wp2
        go_ret
        obtain ⟨q1, q2, q3, q4⟩ := HG.out
        exact ⟨rfl, q1, ⟨_, q2, q4, q3, by simp; omega, hBx⟩⟩
end
end
end Go.Proofs.YtjhnopnppimnhaaGreatDoor
