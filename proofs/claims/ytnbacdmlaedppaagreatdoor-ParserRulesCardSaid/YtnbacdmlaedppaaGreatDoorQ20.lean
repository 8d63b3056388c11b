/-
  PARTS of a claim, merged by segs.py: Pg4.
-/
import Derived.Test.YtnbacdmlaedppaaGreatDoorQ19
namespace Go.Proofs.YtnbacdmlaedppaaGreatDoor

/-! ### Pg4 -/
section
open Go.RowKit

/-- An element appended to a row of the call's own, the slice stored into its field. -/
theorem app_store {bp c i ba o B : Nat} {A : Option Addr} {L : List Tok} {S : List Nat} {w0 w4 w8 : World} {arr : Array Value} {ta : TypeId} {v8 : Value} {x : Option Nat} (P : PW bp A c L i w4) (hC : Chg S w0 w4) (hba : ba ∈ S ∨ w0.heap.size ≤ ba) (hBs : w0.heap.size ≤ B) (hb : w4.heap[ba]? = some (.cells arr ta)) (hpl : bp < ba) (haB : ba < B) (hx : ∀ b, x = some b → B ≤ b) (hg : w4.grownBy w8 x) :
    PW bp A c L i (w8.setCell ⟨ba, o, none⟩ v8) ∧ (w8.setCell ⟨ba, o, none⟩ v8).heap[ba]? = some (.cells (arr.setIfInBounds o v8) ta) ∧ Chg S w0 (w8.setCell ⟨ba, o, none⟩ v8) ∧ ∀ g, g < B → g ≠ ba → g < w4.heap.size → (w8.setCell ⟨ba, o, none⟩ v8).heap[g]? = w4.heap[g]? := by
  have P8 := P.grown hg (fun b e => by have := hx b e; omega)
  have C8 := hC.grown hg (fun b e => .inr (by have := hx b e; omega))
  have hb8 := (hg.block ba (lt_of_block hb) (fun e => by have := hx ba e.symm; omega)).trans hb
  exact ⟨P8.chg ((Chg.refl [ba] w8).set (.inl (by simp)) o v8) (fun s hs => by simp at hs; omega), heap_setCell_same w8 ba o arr ta v8 hb8, C8.set hba o v8, fun g h1 h2 h3 =>
    (Below.heap_setCell w8 ⟨ba, o, none⟩ v8 g (by show g ≠ ba; exact h2)).trans (hg.block g h3 (fun e => by have := hx g e.symm; omega))⟩
theorem own_base {w : World} {B e k n : Nat} {v : Value} {xs : List Value} (h : w.ownsRow B e k v n xs) : ∀ b, v.ownBlock = some b → B ≤ b ∧ b < w.heap.size := fun b e => h.lt b e

theorem set_far {w : World} {b g o j : Nat} {v x : Value} (hne : g ≠ b) (h : w.cell? ⟨g, j, none⟩ = some x) : (w.setCell ⟨b, o, none⟩ v).cell? ⟨g, j, none⟩ = some x :=
  (World.cell?_setCell_other _ _ _ _ (by intro e; simp only [Addr.mk.injEq] at e; exact hne e.1.symm)).trans h
/-- An atom's terms, half read. -/
def TrR (w0 : World) (bp ba gp ga B : Nat) (ng : Bool) (rl : ByteArray) (i : Nat) (s : List Trm) (W : World) : Prop :=
  ∃ u, W.heap[ba]? = some (.cells #[.bool ng, .string rl, u] 111) ∧ W.ownsRow B 146 4 u s.length (s.flatMap cellsT) ∧
    W.heap[gp]? = some (.cells #[.pointer (some ⟨bp, 0, none⟩)] 69) ∧ W.heap[ga]? = some (.cells #[.pointer (some ⟨ba, 0, none⟩)] 154) ∧ Chg [bp, ba] w0 W ∧ s.length ≤ i ∧ B ≤ W.heap.size
def TrB (w0 : World) (bp ba : Nat) (ng : Bool) (rl : ByteArray) (W : World) : Prop :=
  ∃ X n c, W.heap[ba]? = some (.cells #[.bool ng, .string rl, .slice X n c] 111) ∧ Chg [bp, ba] w0 W
/-- How the blocks lie. -/
structure Lay (w0 : World) (bp ba gp ga B : Nat) : Prop where
  pa : bp < ba
  a0 : ba < w0.heap.size
  p0 : w0.heap.size ≤ gp
  q0 : w0.heap.size ≤ ga
  pB : gp < B
  aB : ga < B
  ne : gp ≠ ga
theorem TrR.on {w0 : World} {bp ba gp ga B : Nat} {ng : Bool} {rl : ByteArray} {i j : Nat} {s : List Trm} {W W' : World} (l : Lay w0 bp ba gp ga B) (h : TrR w0 bp ba gp ga B ng rl i s W) (hc : Chg [bp] W W') (hj : i ≤ j) : TrR w0 bp ba gp ga B ng rl j s W' := by
  obtain ⟨u, h1, h2, h3, h4, h5, h6, h7⟩ := h
  have e : ∀ g, g ≠ bp → g < W.heap.size → W'.heap[g]? = W.heap[g]? := fun g hg hl => hc.block g hl (by simp; exact hg)
  have := l.pa; have := l.a0; have := l.p0; have := l.q0; have := l.pB; have := l.aB
  exact ⟨u, (e ba (by omega) (lt_of_block h1)).trans h1, hc.ownS h2 (fun s hs => by simp at hs; omega), (e gp (by omega) (lt_of_block h3)).trans h3, (e ga (by omega) (lt_of_block h4)).trans h4, h5.then hc (fun t ht => .inl (by simp at ht; simp [ht])), by omega, Nat.le_trans h7 hc.size⟩

/-- A term, read or not. -/
def TrQ (bp : Nat) (A : Option Addr) (c : Nat) (L : List Tok) (i : Nat) (y : Option Trm) (q : Bool) (cs : List Value) (w : World) : Prop := match y with
  | none => q = false ∧ PW bp A c L i w
  | some x => q = true ∧ PW bp A c L (i + 1) w ∧ cellsT x = cs
section
variable {bp c : Nat} {A : Option Addr} {L : List Tok}
set_option maxRecDepth 100000 in
set_option maxHeartbeats 2000000 in
theorem prs_term1 {w0 : World} {ba gp ga B : Nat} {ng : Bool} {rl : ByteArray} {i : Nat} {s : List Trm} {W : World} (l : Lay w0 bp ba gp ga B) (hp : PW bp A c L i W) (hr : TrR w0 bp ba gp ga B ng rl i s W) :
    Calls Tryz.prog 112 #[.pointer (some ⟨gp, 0, none⟩), .pointer (some ⟨ga, 0, none⟩)] W (RetE bp A c L (termStep (tkL L) i s) (TrB w0 bp ba ng rl) (TrR w0 bp ba gp ga B ng rl)) := by
  obtain ⟨i0, hi0, hz0, hz1, hz2⟩ := info_parts infoTrP
  have l1 := l.pa; have l2 := l.a0; have l3 := l.p0; have l4 := l.q0; have l5 := l.pB; have l6 := l.aB; have l7 := l.ne
  have hf := hp.few
  have hi := hp.lt
  obtain ⟨u, h1, h2, h3, h4, h5, h6, h7⟩ := hr
  -- the world with the term's box
  have k0 := below_one W (.cells #[.string ⟨#[]⟩, .int .i64 0, .int .i64 0, .string ⟨#[]⟩] 146)
  have hbt := heap_alloc_new W (.cells #[.string ⟨#[]⟩, .int .i64 0, .int .i64 0, .string ⟨#[]⟩] 146)
  obtain ⟨W1, hW1⟩ : ∃ W1, W.alloc (.cells #[.string ⟨#[]⟩, .int .i64 0, .int .i64 0, .string ⟨#[]⟩] 146) = W1 := ⟨_, rfl⟩
  rw [hW1] at k0 hbt
  have hsz : W1.heap.size = W.heap.size + 1 := by rw [← hW1]; simp
  have P1 := hid (hp.below k0)
  have hl3 := lt_of_block h3
  have hl4 := lt_of_block h4
  have hl1 := lt_of_block h1
  have hlp := hp.block_lt
  -- what holds in every world behind the two calls
  have HK := hid (fun (W' : World) (cw : Chg [bp, W.heap.size] W1 W') => (show W'.heap[ba]? = some (.cells #[.bool ng, .string rl, u] 111) ∧ W'.ownsRow B 146 4 u s.length (s.flatMap cellsT) ∧ W'.heap[gp]? = some (.cells #[.pointer (some ⟨bp, 0, none⟩)] 69) ∧ W'.heap[ga]? = some (.cells #[.pointer (some ⟨ba, 0, none⟩)] 154) ∧ Chg [bp, ba] w0 W' ∧ W1.heap.size ≤ W'.heap.size from by
    have hcw : Chg [bp] W W' := (chg_below k0).then cw (fun t ht => by simp at ht; rcases ht with ht | ht <;> simp [ht])
    have e : ∀ g, g ≠ bp → g < W.heap.size → W'.heap[g]? = W.heap[g]? := fun g hg hl => hcw.block g hl (by simp; exact hg)
    exact ⟨(e ba (by omega) hl1).trans h1, hcw.ownS h2 (fun s hs => by simp at hs; omega), (e gp (by omega) hl3).trans h3, (e ga (by omega) hl4).trans h4, h5.then hcw (fun t ht => .inl (by simp at ht; simp [ht])), cw.size⟩))
  have c1 := box_cell ((k0.block gp hl3).trans h3) 0
  obtain ⟨z, hz⟩ : ∃ z, ((tkL L i).k == 1) = z := ⟨_, rfl⟩
  have HN := hid (prs_name (bn := W.heap.size) (o := 0) (Z := ⟨#[]⟩) P1.out hbt rfl (by omega) hz)
  obtain ⟨xc, hxc⟩ : ∃ xc, constT (tkL L i) = xc := ⟨_, rfl⟩
  have HC := hid (fun (W' : World) (p : PW bp A c L i W') (hb' : W'.heap[W.heap.size]? = some (.cells #[.string ⟨#[]⟩, .int .i64 0, .int .i64 0, .string ⟨#[]⟩] 146)) => prs_const (bv := W.heap.size) (o := 1) p hb' (by decide) (by omega) hxc)
  have HA := hid hW1
  have Hn := own_base h2
  obtain ⟨Au, cu, rfl⟩ := own_shape h2
  have HOB : Hid (∀ b, Value.ownBlock (.slice Au s.length cu) = some b → B ≤ b ∧ b < W.heap.size) := hid Hn
  obtain ⟨y, hy⟩ : ∃ y, termT (tkL L i) = y := ⟨_, rfl⟩
  have hy2 : y = if z = true then some ⟨(tkL L i).t, V0⟩ else xc.map fun v => ⟨[], v⟩ := by
    rw [← hy, ← hz, ← hxc]
    unfold termT
    by_cases hk : (tkL L i).k = 1
    · rw [if_pos hk, if_pos (by simpa using hk)]
    · rw [if_neg hk, if_neg (by simpa using hk)]
  unfold termStep
  rw [hy]
  clear h1 h2 h3 h4 h5 hp k0 hbt hW1 Hn hy hz hxc
  generalize tkL L i = t at *
  have HY := hid hy2
  clear hy2
  go_enter Tryz.func112, Tryz.ntmps112
  go_upto_region 2 with (rw [HA.out])
  go_cut [4] (fun sl wx => ∃ (q : Bool) (a : ByteArray) (b d : Int) (e : ByteArray), sl = .bool q ∧ Hid (wx.heap[W.heap.size]? = some (.cells #[.string a, .int .i64 b, .int .i64 d, .string e] 146) ∧ (wx.heap[ba]? = some (.cells #[.bool ng, .string rl, .slice Au s.length cu] 111) ∧ wx.ownsRow B 146 4 (.slice Au s.length cu) s.length (s.flatMap cellsT) ∧ wx.heap[gp]? = some (.cells #[.pointer (some ⟨bp, 0, none⟩)] 69) ∧ wx.heap[ga]? = some (.cells #[.pointer (some ⟨ba, 0, none⟩)] 154) ∧ Chg [bp, ba] w0 wx ∧ W1.heap.size ≤ wx.heap.size) ∧ TrQ bp A c L i y q [.string a, .int .i64 b, .int .i64 d, .string e] wx))
  case first =>
    cases z with
    | true =>
      simp only [if_true] at HY HN
      go_wp2_with fail
      refine HN.out.mono ?_
      rintro e w2 ⟨rfl, p2, b2, c2⟩
      have HF := hid (And.intro b2 (And.intro (HK.out w2 c2) p2))
      clear p2 b2 c2 HN HK HC
      go_wp2_with fail
      go_meet
      exact ⟨true, ⟨t.t.toArray⟩, 0, 0, ⟨#[]⟩, rfl, hid ⟨HF.out.1, HF.out.2.1, by rw [HY.out]; exact And.intro rfl (And.intro HF.out.2.2 rfl)⟩⟩
    | false =>
      simp only [Bool.false_eq_true, if_false] at HY HN
      go_wp2_with fail
      refine HN.out.mono ?_
      rintro e w2 ⟨rfl, p2, b2, c2⟩
      have cp := box_cell ((HK.out w2 c2).2.2.1) 0
      have HC2 := hid (HC.out w2 p2 b2)
      have H2 := hid c2
      clear p2 b2 c2 HN HC
      cases xc with
      | some v =>
        go_wp2_with fail
        refine HC2.out.mono ?_
        rintro e w3 ⟨⟨rfl, p3, b3⟩, c3⟩
        have HF := hid (And.intro b3 (And.intro (HK.out w3 (H2.out.trans c3)) p3))
        clear p3 b3 c3 HK HC2 cp H2
        go_wp2_with fail
        go_meet
        exact ⟨true, ⟨#[]⟩, v.k, v.n, v.s, rfl, hid ⟨HF.out.1, HF.out.2.1, by rw [HY.out]; exact And.intro rfl (And.intro HF.out.2.2 rfl)⟩⟩
      | none =>
        go_wp2_with fail
        refine HC2.out.mono ?_
        rintro e w3 ⟨⟨rfl, p3, b3⟩, c3⟩
        have HF := hid (And.intro b3 (And.intro (HK.out w3 (H2.out.trans c3)) p3))
        clear p3 b3 c3 HK HC2 cp H2
        go_wp2_with fail
        go_meet
        exact ⟨false, ⟨#[]⟩, 0, 0, ⟨#[]⟩, rfl, hid ⟨HF.out.1, HF.out.2.1, by rw [HY.out]; exact And.intro rfl HF.out.2.2⟩⟩
  case rest =>
    obtain ⟨q, a, b, d, e, rfl, HF⟩ := hcut
    clear HN HC HK HA P1 c1 HY
    obtain ⟨bt, ⟨g1, g2, g3, g4, g5, g6⟩, hq⟩ := HF.out
    have hb1 := lt_of_block g1
    have hb2 := lt_of_block bt
    have hb4 := lt_of_block g4
    have d0 := box_cell bt 0
    have d1 := box_cell bt 1
    have d2 := box_cell bt 2
    have d3 := box_cell bt 3
    have e1 := box_cell g4 0
    have e2 := box_cell g1 2
    have hgt : W.heap.size ≠ ba := by omega
    have hlen : (s.length + 1) * 48 ≤ 140737488355328 := by omega
    have hBc : B ≤ wc.heap.size := by omega
    clear g1 g3 g4 g5 bt hq
    go_upto_region 3 with fail
    go_cut [] (fun wx => Hid (∃ g8 cap8, wx.heap[ba]? = some (.cells #[.bool ng, .string rl, .slice (some ⟨g8, 0, none⟩) (s.length + 1) cap8] 111) ∧ wx.ownsRow B 146 4 (.slice (some ⟨g8, 0, none⟩) (s.length + 1) cap8) (s.length + 1) (s.flatMap cellsT ++ [.string a, .int .i64 b, .int .i64 d, .string e]) ∧ wx.heap[gp]? = some (.cells #[.pointer (some ⟨bp, 0, none⟩)] 69) ∧ wx.heap[ga]? = some (.cells #[.pointer (some ⟨ba, 0, none⟩)] 154) ∧ Chg [bp, ba] w0 wx ∧ (∀ j, PW bp A c L j wc → PW bp A c L j wx) ∧ wc.heap.size ≤ wx.heap.size))
    case first =>
      have HFin := hid (fun (w8 : World) (g8 cap8 : Nat) (hown8 : w8.ownsRow B 146 4 (.slice (some ⟨g8, 0, none⟩) (s.length + 1) cap8) (s.length + 1) (s.flatMap cellsT ++ [.string a, .int .i64 b, .int .i64 d, .string e])) (hg8 : wc.grownBy w8 (Value.ownBlock (.slice Au s.length cu))) =>
        (show Hid (∃ g8' cap8', (w8.setCell ⟨ba, 2, none⟩ (.slice (some ⟨g8, 0, none⟩) (s.length + 1) cap8)).heap[ba]? = some (.cells #[.bool ng, .string rl, .slice (some ⟨g8', 0, none⟩) (s.length + 1) cap8'] 111) ∧ (w8.setCell ⟨ba, 2, none⟩ (.slice (some ⟨g8, 0, none⟩) (s.length + 1) cap8)).ownsRow B 146 4 (.slice (some ⟨g8', 0, none⟩) (s.length + 1) cap8') (s.length + 1) (s.flatMap cellsT ++ [.string a, .int .i64 b, .int .i64 d, .string e]) ∧ (w8.setCell ⟨ba, 2, none⟩ (.slice (some ⟨g8, 0, none⟩) (s.length + 1) cap8)).heap[gp]? = some (.cells #[.pointer (some ⟨bp, 0, none⟩)] 69) ∧ (w8.setCell ⟨ba, 2, none⟩ (.slice (some ⟨g8, 0, none⟩) (s.length + 1) cap8)).heap[ga]? = some (.cells #[.pointer (some ⟨ba, 0, none⟩)] 154) ∧ Chg [bp, ba] w0 (w8.setCell ⟨ba, 2, none⟩ (.slice (some ⟨g8, 0, none⟩) (s.length + 1) cap8)) ∧ (∀ j, PW bp A c L j wc → PW bp A c L j (w8.setCell ⟨ba, 2, none⟩ (.slice (some ⟨g8, 0, none⟩) (s.length + 1) cap8))) ∧ wc.heap.size ≤ (w8.setCell ⟨ba, 2, none⟩ (.slice (some ⟨g8, 0, none⟩) (s.length + 1) cap8)).heap.size) from hid (by
          obtain ⟨bt, ⟨g1, g2, g3, g4, g5, g6⟩, _⟩ := HF.out
          have hx : ∀ b, Value.ownBlock (.slice Au s.length cu) = some b → B ≤ b := fun b e => (HOB.out b e).1
          have key : ∀ j, PW bp A c L j wc → _ := fun j P => app_store (o := 2) (v8 := .slice (some ⟨g8, 0, none⟩) (s.length + 1) cap8) P g5 (.inl (by simp)) (by omega) g1 (by omega) (by omega) hx hg8
          have hb8 := (hg8.block ba (lt_of_block g1) (fun e => by have := hx ba e.symm; omega)).trans g1
          have fr : ∀ g, g < B → g ≠ ba → g < wc.heap.size → (w8.setCell ⟨ba, 2, none⟩ (.slice (some ⟨g8, 0, none⟩) (s.length + 1) cap8)).heap[g]? = wc.heap[g]? := fun g h1 h2 h3 => (Below.heap_setCell w8 ⟨ba, 2, none⟩ _ g (by show g ≠ ba; exact h2)).trans (hg8.block g h3 (fun e => by have := hx g e.symm; omega))
          exact ⟨g8, cap8, heap_setCell_same w8 ba 2 _ _ _ hb8, ownsRow_setCell_other hown8 (a := ⟨ba, 2, none⟩) (fun e => by have := (hown8.lt _ e).1; simp at this; omega) _, (fr gp (by omega) (by omega) (lt_of_block g3)).trans g3, (fr ga (by omega) (by omega) (lt_of_block g4)).trans g4, (g5.grown hg8 (fun b e => .inr (by have := hx b e; omega))).set (.inl (by simp)) 2 _, fun j P => (key j P).1, by simp only [World.setCell, Array.size_modify]; exact hg8.size⟩)))
      go_region_law (refine step_append_new_drew Tryz.underlying109 hi0 hz0 hz1 hz2 rfl (by decide) (by decide) rfl rfl rfl g2 rfl rfl rfl hlen hBc ?_; intro v8 w8 hown8 hg8; obtain ⟨g8, cap8, rfl⟩ := own_slice1 hown8; have m2 := box_cell ((hg8.block ba hb1 (fun e => by have := (HOB.out ba e.symm).1; omega)).trans HF.out.2.1.1) 2; have f82 := box_free ((hg8.block ba hb1 (fun e => by have := (HOB.out ba e.symm).1; omega)).trans HF.out.2.1.1) 2; have m1 := box_cell ((hg8.block ga hb4 (fun e => by have := (HOB.out ga e.symm).1; omega)).trans HF.out.2.1.2.2.2.1) 0; have HFin8 := HFin.out w8 g8 cap8 hown8 ⟨hg8.os, hg8.tape, hg8.output, hg8.size, hg8.block⟩)
      all_goals (go_wp2_with fail; go_meet; exact HFin8)
    case rest =>
      have HQ := hid HF.out.2.2
      clear HF HOB g2 hlen hBc d0 d1 d2 d3 e1 e2 hb1 hb2 hb4
      obtain ⟨g8, cap8, r1, r2, r3, r4, r5, r6, r7⟩ := hcut.out
      cases y with
      | none =>
        obtain ⟨rfl, hq⟩ := HQ.out
        have HF := hid (And.intro (r6 _ hq) (And.intro r1 r5))
        clear r1 r2 r3 r4 r5 r6 r7 hq HQ hcut
        go_wp2
        go_ret
        exact ⟨rfl, HF.out.1, ⟨_, _, _, HF.out.2.1, HF.out.2.2⟩⟩
      | some x =>
        obtain ⟨rfl, hq, hcs⟩ := HQ.out
        rw [← hcs] at r2
        have HF := hid (And.intro (r6 _ hq) (And.intro r1 (And.intro r2 (And.intro r3 (And.intro r4 r5)))))
        clear r1 r2 r3 r4 r5 r6 hq HQ hcut hcs
        go_wp2
        go_ret
        obtain ⟨r6, r1, r2, r3, r4, r5⟩ := HF.out
        exact ⟨rfl, r6, ⟨_, r1, by simpa using r2, r3, r4, r5, by simp; omega, by omega⟩⟩
end
end
end Go.Proofs.YtnbacdmlaedppaaGreatDoor
