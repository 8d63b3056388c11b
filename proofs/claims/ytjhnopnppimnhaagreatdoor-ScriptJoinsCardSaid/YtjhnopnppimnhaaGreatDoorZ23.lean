/-
  PARTS of a claim, merged by segs.py: Pg4, PgH, PgG.
-/
import Derived.Test.YtjhnopnppimnhaaGreatDoorZ22
import Derived.Test.YtjhnopnppimnhaaGreatDoorZ17
namespace Go.Proofs.YtjhnopnppimnhaaGreatDoor

/-! ### Pg4 -/
section
open Go.RowKit

/-- An element appended to a row of the call's own, the slice stored into its field. -/
theorem app_store {bp c i ba o B : Nat} {A : Option Addr} {L : List Tok} {S : List Nat} {w0 w4 w8 : World} {arr : Array Value} {ta : TypeId} {v8 : Value} {x : Option Nat} (P : PW bp A c L i w4) (hC : Chg S w0 w4) (hba : ba ∈ S ∨ w0.heap.size ≤ ba) (hBs : w0.heap.size ≤ B) (hb : w4.heap[ba]? = some (.cells arr ta)) (hpl : bp < ba) (haB : ba < B) (hx : ∀ b, x = some b → B ≤ b) (hg : w4.grownBy w8 x) :
    PW bp A c L i (w8.setCell ⟨ba, o, none⟩ v8) ∧ (w8.setCell ⟨ba, o, none⟩ v8).heap[ba]? = some (.cells (arr.setIfInBounds o v8) ta) ∧ Chg S w0 (w8.setCell ⟨ba, o, none⟩ v8) ∧ ∀ g, g < B → g ≠ ba → g < w4.heap.size → (w8.setCell ⟨ba, o, none⟩ v8).heap[g]? = w4.heap[g]? := by
  have P8 := P.grown hg (fun b e => by have := hx b e; omega)
  have C8 := hC.grown hg (fun b e => .inr (by have := hx b e; omega))
  have hb8 := (hg.block ba (lt_of_block hb) (fun e => by have := hx ba e.symm; omega)).trans hb
  exact ⟨P8.chg ((Chg.refl [ba] w8).set (.inl (by simp)) o v8) (fun s hs => by simp at hs; omega), heap_setCell_same w8 ba o arr ta v8 hb8, C8.set hba o v8, fun g h1 h2 h3 =>
    (Below.heap_setCell w8 ⟨ba, o, none⟩ v8 g (by show g ≠ ba; exact h2)).trans (hg.block g h3 (fun e => by have := hx g e.symm; omega))⟩
theorem own_base {w : World} {B e k n : Nat} {v : Value} {xs : List Value} (h : w.ownsRow B e k v n xs) : ∀ b, v.ownBlock = some b → B ≤ b ∧ b < w.heap.size := fun b e => h.lt b e

theorem set_far {w : World} {b g o j : Nat} {v x : Value} (hne : g ≠ b) (h : w.cell? ⟨g, j, none⟩ = some x) : (w.setCell ⟨b, o, none⟩ v).cell? ⟨g, j, none⟩ = some x :=
  (World.cell?_setCell_other _ _ _ _ (by intro e; simp only [Addr.mk.injEq] at e; exact hne e.1.symm)).trans h
/-- An atom's terms, half read. -/
def TrR (w0 : World) (bp ba gp ga B : Nat) (ng : Bool) (rl : ByteArray) (i : Nat) (s : List Trm) (W : World) : Prop :=
  ∃ u, W.heap[ba]? = some (.cells #[.bool ng, .string rl, u] 188) ∧ W.ownsRow B 201 4 u s.length (s.flatMap cellsT) ∧
    W.heap[gp]? = some (.cells #[.pointer (some ⟨bp, 0, none⟩)] 111) ∧ W.heap[ga]? = some (.cells #[.pointer (some ⟨ba, 0, none⟩)] 190) ∧ Chg [bp, ba] w0 W ∧ s.length ≤ i ∧ B ≤ W.heap.size
def TrB (w0 : World) (bp ba : Nat) (ng : Bool) (rl : ByteArray) (W : World) : Prop :=
  ∃ X n c, W.heap[ba]? = some (.cells #[.bool ng, .string rl, .slice X n c] 188) ∧ Chg [bp, ba] w0 W
/-- How the blocks lie. -/
structure Lay (w0 : World) (bp ba gp ga B : Nat) : Prop where
  pa : bp < ba
  a0 : ba < w0.heap.size
  p0 : w0.heap.size ≤ gp
  q0 : w0.heap.size ≤ ga
  pB : gp < B
  aB : ga < B
  ne : gp ≠ ga
theorem TrR.on {w0 : World} {bp ba gp ga B : Nat} {ng : Bool} {rl : ByteArray} {i j : Nat} {s : List Trm} {W W' : World} (l : Lay w0 bp ba gp ga B) (h : TrR w0 bp ba gp ga B ng rl i s W) (hc : Chg [bp] W W') (hj : i ≤ j) : TrR w0 bp ba gp ga B ng rl j s W' := by
  obtain ⟨u, h1, h2, h3, h4, h5, h6, h7⟩ := h
  have e : ∀ g, g ≠ bp → g < W.heap.size → W'.heap[g]? = W.heap[g]? := fun g hg hl => hc.block g hl (by simp; exact hg)
  have := l.pa; have := l.a0; have := l.p0; have := l.q0; have := l.pB; have := l.aB
  exact ⟨u, (e ba (by omega) (lt_of_block h1)).trans h1, hc.ownS h2 (fun s hs => by simp at hs; omega), (e gp (by omega) (lt_of_block h3)).trans h3, (e ga (by omega) (lt_of_block h4)).trans h4, h5.then hc (fun t ht => .inl (by simp at ht; simp [ht])), by omega, Nat.le_trans h7 hc.size⟩

/-- A term, read or not. -/
def TrQ (bp : Nat) (A : Option Addr) (c : Nat) (L : List Tok) (i : Nat) (y : Option Trm) (q : Bool) (cs : List Value) (w : World) : Prop := match y with
  | none => q = false ∧ PW bp A c L i w
  | some x => q = true ∧ PW bp A c L (i + 1) w ∧ cellsT x = cs
section
variable {bp c : Nat} {A : Option Addr} {L : List Tok}
set_option maxRecDepth 100000 in
set_option maxHeartbeats 2000000 in
theorem prs_term1 {w0 : World} {ba gp ga B : Nat} {ng : Bool} {rl : ByteArray} {i : Nat} {s : List Trm} {W : World} (l : Lay w0 bp ba gp ga B) (hp : PW bp A c L i W) (hr : TrR w0 bp ba gp ga B ng rl i s W) :
    Calls Tryz.prog 157 #[.pointer (some ⟨gp, 0, none⟩), .pointer (some ⟨ga, 0, none⟩)] W (RetE bp A c L (termStep (tkL L) i s) (TrB w0 bp ba ng rl) (TrR w0 bp ba gp ga B ng rl)) := by
  obtain ⟨i0, hi0, hz0, hz1, hz2⟩ := info_parts infoTrP
  have l1 := l.pa; have l2 := l.a0; have l3 := l.p0; have l4 := l.q0; have l5 := l.pB; have l6 := l.aB; have l7 := l.ne
  have hf := hp.few
  have hi := hp.lt
  obtain ⟨u, h1, h2, h3, h4, h5, h6, h7⟩ := hr
  -- the world with the term's box
  have k0 := below_one W (.cells #[.string ⟨#[]⟩, .int .i64 0, .int .i64 0, .string ⟨#[]⟩] 201)
  have hbt := heap_alloc_new W (.cells #[.string ⟨#[]⟩, .int .i64 0, .int .i64 0, .string ⟨#[]⟩] 201)
  obtain ⟨W1, hW1⟩ : ∃ W1, W.alloc (.cells #[.string ⟨#[]⟩, .int .i64 0, .int .i64 0, .string ⟨#[]⟩] 201) = W1 := ⟨_, rfl⟩
  rw [hW1] at k0 hbt
  have hsz : W1.heap.size = W.heap.size + 1 := by rw [← hW1]; simp
  have P1 := hid (hp.below k0)
  have hl3 := lt_of_block h3
  have hl4 := lt_of_block h4
  have hl1 := lt_of_block h1
  have hlp := hp.block_lt
  -- what holds in every world behind the two calls
  have HK := hid (fun (W' : World) (cw : Chg [bp, W.heap.size] W1 W') => (show W'.heap[ba]? = some (.cells #[.bool ng, .string rl, u] 188) ∧ W'.ownsRow B 201 4 u s.length (s.flatMap cellsT) ∧ W'.heap[gp]? = some (.cells #[.pointer (some ⟨bp, 0, none⟩)] 111) ∧ W'.heap[ga]? = some (.cells #[.pointer (some ⟨ba, 0, none⟩)] 190) ∧ Chg [bp, ba] w0 W' ∧ W1.heap.size ≤ W'.heap.size from by
    have hcw : Chg [bp] W W' := (chg_below k0).then cw (fun t ht => by simp at ht; rcases ht with ht | ht <;> simp [ht])
    have e : ∀ g, g ≠ bp → g < W.heap.size → W'.heap[g]? = W.heap[g]? := fun g hg hl => hcw.block g hl (by simp; exact hg)
    exact ⟨(e ba (by omega) hl1).trans h1, hcw.ownS h2 (fun s hs => by simp at hs; omega), (e gp (by omega) hl3).trans h3, (e ga (by omega) hl4).trans h4, h5.then hcw (fun t ht => .inl (by simp at ht; simp [ht])), cw.size⟩))
  have c1 := box_cell ((k0.block gp hl3).trans h3) 0
  obtain ⟨z, hz⟩ : ∃ z, ((tkL L i).k == 1) = z := ⟨_, rfl⟩
  have HN := hid (prs_name (bn := W.heap.size) (o := 0) (Z := ⟨#[]⟩) P1.out hbt rfl (by omega) hz)
  obtain ⟨xc, hxc⟩ : ∃ xc, constT (tkL L i) = xc := ⟨_, rfl⟩
  have HC := hid (fun (W' : World) (p : PW bp A c L i W') (hb' : W'.heap[W.heap.size]? = some (.cells #[.string ⟨#[]⟩, .int .i64 0, .int .i64 0, .string ⟨#[]⟩] 201)) => prs_const (bv := W.heap.size) (o := 1) p hb' (by decide) (by omega) hxc)
  have HA := hid hW1
  have Hn := own_base h2
  obtain ⟨Au, cu, rfl⟩ := own_shape h2
  have HOB : Hid (∀ b, Value.ownBlock (.slice Au s.length cu) = some b → B ≤ b ∧ b < W.heap.size) := hid Hn
  obtain ⟨y, hy⟩ : ∃ y, termT (tkL L i) = y := ⟨_, rfl⟩
  have hy2 : y = if z = true then some ⟨(tkL L i).t, V0⟩ else xc.map fun v => ⟨[], v⟩ := by
    rw [← hy, ← hz, ← hxc]
    unfold termT
    by_cases hk : (tkL L i).k = 1
    · rw [if_pos hk, if_pos (by simpa using hk)]
    · rw [if_neg hk, if_neg (by simpa using hk)]
  unfold termStep
  rw [hy]
  clear h1 h2 h3 h4 h5 hp k0 hbt hW1 Hn hy hz hxc
  generalize tkL L i = t at *
  have HY := hid hy2
  clear hy2
  go_enter Tryz.func157, Tryz.ntmps157
  go_upto_region 2 with (rw [HA.out])
  go_cut [4] (fun sl wx => ∃ (q : Bool) (a : ByteArray) (b d : Int) (e : ByteArray), sl = .bool q ∧ Hid (wx.heap[W.heap.size]? = some (.cells #[.string a, .int .i64 b, .int .i64 d, .string e] 201) ∧ (wx.heap[ba]? = some (.cells #[.bool ng, .string rl, .slice Au s.length cu] 188) ∧ wx.ownsRow B 201 4 (.slice Au s.length cu) s.length (s.flatMap cellsT) ∧ wx.heap[gp]? = some (.cells #[.pointer (some ⟨bp, 0, none⟩)] 111) ∧ wx.heap[ga]? = some (.cells #[.pointer (some ⟨ba, 0, none⟩)] 190) ∧ Chg [bp, ba] w0 wx ∧ W1.heap.size ≤ wx.heap.size) ∧ TrQ bp A c L i y q [.string a, .int .i64 b, .int .i64 d, .string e] wx))
  case first =>
    cases z with
    | true =>
      simp only [if_true] at HY HN
      go_wp2_with fail
      refine HN.out.mono ?_
      rintro e w2 ⟨rfl, p2, b2, c2⟩
      have HF := hid (And.intro b2 (And.intro (HK.out w2 c2) p2))
      clear p2 b2 c2 HN HK HC
      go_wp2_with fail
      go_meet
      exact ⟨true, ⟨t.t.toArray⟩, 0, 0, ⟨#[]⟩, rfl, hid ⟨HF.out.1, HF.out.2.1, by rw [HY.out]; exact And.intro rfl (And.intro HF.out.2.2 rfl)⟩⟩
    | false =>
      simp only [Bool.false_eq_true, if_false] at HY HN
      go_wp2_with fail
      refine HN.out.mono ?_
      rintro e w2 ⟨rfl, p2, b2, c2⟩
      have cp := box_cell ((HK.out w2 c2).2.2.1) 0
      have HC2 := hid (HC.out w2 p2 b2)
      have H2 := hid c2
      clear p2 b2 c2 HN HC
      cases xc with
      | some v =>
        go_wp2_with fail
        refine HC2.out.mono ?_
        rintro e w3 ⟨⟨rfl, p3, b3⟩, c3⟩
        have HF := hid (And.intro b3 (And.intro (HK.out w3 (H2.out.trans c3)) p3))
        clear p3 b3 c3 HK HC2 cp H2
        go_wp2_with fail
        go_meet
        exact ⟨true, ⟨#[]⟩, v.k, v.n, v.s, rfl, hid ⟨HF.out.1, HF.out.2.1, by rw [HY.out]; exact And.intro rfl (And.intro HF.out.2.2 rfl)⟩⟩
      | none =>
        go_wp2_with fail
        refine HC2.out.mono ?_
        rintro e w3 ⟨⟨rfl, p3, b3⟩, c3⟩
        have HF := hid (And.intro b3 (And.intro (HK.out w3 (H2.out.trans c3)) p3))
        clear p3 b3 c3 HK HC2 cp H2
        go_wp2_with fail
        go_meet
        exact ⟨false, ⟨#[]⟩, 0, 0, ⟨#[]⟩, rfl, hid ⟨HF.out.1, HF.out.2.1, by rw [HY.out]; exact And.intro rfl HF.out.2.2⟩⟩
  case rest =>
    obtain ⟨q, a, b, d, e, rfl, HF⟩ := hcut
    clear HN HC HK HA P1 c1 HY
    obtain ⟨bt, ⟨g1, g2, g3, g4, g5, g6⟩, hq⟩ := HF.out
    have hb1 := lt_of_block g1
    have hb2 := lt_of_block bt
    have hb4 := lt_of_block g4
    have d0 := box_cell bt 0
    have d1 := box_cell bt 1
    have d2 := box_cell bt 2
    have d3 := box_cell bt 3
    have e1 := box_cell g4 0
    have e2 := box_cell g1 2
    have hgt : W.heap.size ≠ ba := by omega
    have hlen : (s.length + 1) * 48 ≤ 140737488355328 := by omega
    have hBc : B ≤ wc.heap.size := by omega
    clear g1 g3 g4 g5 bt hq
    go_upto_region 3 with fail
    go_cut [] (fun wx => Hid (∃ g8 cap8, wx.heap[ba]? = some (.cells #[.bool ng, .string rl, .slice (some ⟨g8, 0, none⟩) (s.length + 1) cap8] 188) ∧ wx.ownsRow B 201 4 (.slice (some ⟨g8, 0, none⟩) (s.length + 1) cap8) (s.length + 1) (s.flatMap cellsT ++ [.string a, .int .i64 b, .int .i64 d, .string e]) ∧ wx.heap[gp]? = some (.cells #[.pointer (some ⟨bp, 0, none⟩)] 111) ∧ wx.heap[ga]? = some (.cells #[.pointer (some ⟨ba, 0, none⟩)] 190) ∧ Chg [bp, ba] w0 wx ∧ (∀ j, PW bp A c L j wc → PW bp A c L j wx) ∧ wc.heap.size ≤ wx.heap.size))
    case first =>
      have HFin := hid (fun (w8 : World) (g8 cap8 : Nat) (hown8 : w8.ownsRow B 201 4 (.slice (some ⟨g8, 0, none⟩) (s.length + 1) cap8) (s.length + 1) (s.flatMap cellsT ++ [.string a, .int .i64 b, .int .i64 d, .string e])) (hg8 : wc.grownBy w8 (Value.ownBlock (.slice Au s.length cu))) =>
        (show Hid (∃ g8' cap8', (w8.setCell ⟨ba, 2, none⟩ (.slice (some ⟨g8, 0, none⟩) (s.length + 1) cap8)).heap[ba]? = some (.cells #[.bool ng, .string rl, .slice (some ⟨g8', 0, none⟩) (s.length + 1) cap8'] 188) ∧ (w8.setCell ⟨ba, 2, none⟩ (.slice (some ⟨g8, 0, none⟩) (s.length + 1) cap8)).ownsRow B 201 4 (.slice (some ⟨g8', 0, none⟩) (s.length + 1) cap8') (s.length + 1) (s.flatMap cellsT ++ [.string a, .int .i64 b, .int .i64 d, .string e]) ∧ (w8.setCell ⟨ba, 2, none⟩ (.slice (some ⟨g8, 0, none⟩) (s.length + 1) cap8)).heap[gp]? = some (.cells #[.pointer (some ⟨bp, 0, none⟩)] 111) ∧ (w8.setCell ⟨ba, 2, none⟩ (.slice (some ⟨g8, 0, none⟩) (s.length + 1) cap8)).heap[ga]? = some (.cells #[.pointer (some ⟨ba, 0, none⟩)] 190) ∧ Chg [bp, ba] w0 (w8.setCell ⟨ba, 2, none⟩ (.slice (some ⟨g8, 0, none⟩) (s.length + 1) cap8)) ∧ (∀ j, PW bp A c L j wc → PW bp A c L j (w8.setCell ⟨ba, 2, none⟩ (.slice (some ⟨g8, 0, none⟩) (s.length + 1) cap8))) ∧ wc.heap.size ≤ (w8.setCell ⟨ba, 2, none⟩ (.slice (some ⟨g8, 0, none⟩) (s.length + 1) cap8)).heap.size) from hid (by
          obtain ⟨bt, ⟨g1, g2, g3, g4, g5, g6⟩, _⟩ := HF.out
          have hx : ∀ b, Value.ownBlock (.slice Au s.length cu) = some b → B ≤ b := fun b e => (HOB.out b e).1
          have key : ∀ j, PW bp A c L j wc → _ := fun j P => app_store (o := 2) (v8 := .slice (some ⟨g8, 0, none⟩) (s.length + 1) cap8) P g5 (.inl (by simp)) (by omega) g1 (by omega) (by omega) hx hg8
          have hb8 := (hg8.block ba (lt_of_block g1) (fun e => by have := hx ba e.symm; omega)).trans g1
          have fr : ∀ g, g < B → g ≠ ba → g < wc.heap.size → (w8.setCell ⟨ba, 2, none⟩ (.slice (some ⟨g8, 0, none⟩) (s.length + 1) cap8)).heap[g]? = wc.heap[g]? := fun g h1 h2 h3 => (Below.heap_setCell w8 ⟨ba, 2, none⟩ _ g (by show g ≠ ba; exact h2)).trans (hg8.block g h3 (fun e => by have := hx g e.symm; omega))
          exact ⟨g8, cap8, heap_setCell_same w8 ba 2 _ _ _ hb8, ownsRow_setCell_other hown8 (a := ⟨ba, 2, none⟩) (fun e => by have := (hown8.lt _ e).1; simp at this; omega) _, (fr gp (by omega) (by omega) (lt_of_block g3)).trans g3, (fr ga (by omega) (by omega) (lt_of_block g4)).trans g4, (g5.grown hg8 (fun b e => .inr (by have := hx b e; omega))).set (.inl (by simp)) 2 _, fun j P => (key j P).1, by simp only [World.setCell, Array.size_modify]; exact hg8.size⟩)))
      go_region_law (refine step_append_new_drew Tryz.underlying186 hi0 hz0 hz1 hz2 rfl (by decide) (by decide) rfl rfl rfl g2 rfl rfl rfl hlen hBc ?_; intro v8 w8 hown8 hg8; obtain ⟨g8, cap8, rfl⟩ := own_slice1 hown8; have m2 := box_cell ((hg8.block ba hb1 (fun e => by have := (HOB.out ba e.symm).1; omega)).trans HF.out.2.1.1) 2; have f82 := box_free ((hg8.block ba hb1 (fun e => by have := (HOB.out ba e.symm).1; omega)).trans HF.out.2.1.1) 2; have m1 := box_cell ((hg8.block ga hb4 (fun e => by have := (HOB.out ga e.symm).1; omega)).trans HF.out.2.1.2.2.2.1) 0; have HFin8 := HFin.out w8 g8 cap8 hown8 ⟨hg8.os, hg8.tape, hg8.output, hg8.size, hg8.block⟩)
      all_goals (go_wp2_with fail; go_meet; exact HFin8)
    case rest =>
      have HQ := hid HF.out.2.2
      clear HF HOB g2 hlen hBc d0 d1 d2 d3 e1 e2 hb1 hb2 hb4
      obtain ⟨g8, cap8, r1, r2, r3, r4, r5, r6, r7⟩ := hcut.out
      cases y with
      | none =>
        obtain ⟨rfl, hq⟩ := HQ.out
        have HF := hid (And.intro (r6 _ hq) (And.intro r1 r5))
        clear r1 r2 r3 r4 r5 r6 r7 hq HQ hcut
        go_wp2
        go_ret
        exact ⟨rfl, HF.out.1, ⟨_, _, _, HF.out.2.1, HF.out.2.2⟩⟩
      | some x =>
        obtain ⟨rfl, hq, hcs⟩ := HQ.out
        rw [← hcs] at r2
        have HF := hid (And.intro (r6 _ hq) (And.intro r1 (And.intro r2 (And.intro r3 (And.intro r4 r5)))))
        clear r1 r2 r3 r4 r5 r6 hq HQ hcut hcs
        go_wp2
        go_ret
        obtain ⟨r6, r1, r2, r3, r4, r5⟩ := HF.out
        exact ⟨rfl, r6, ⟨_, r1, by simpa using r2, r3, r4, r5, by simp; omega, by omega⟩⟩
end
end

/-! ### PgH -/
section
open Go.RowKit

/-- How the blocks of a closure over the query lie. -/
structure LayQ (W0 : World) (bp bq gp gq B : Nat) : Prop where
  pq : bp < bq
  q0 : bq < W0.heap.size
  B0 : W0.heap.size ≤ B
  hp : W0.heap[gp]? = some (.cells #[.pointer (some ⟨bp, 0, none⟩)] 111)
  hq : W0.heap[gq]? = some (.cells #[.pointer (some ⟨bq, 0, none⟩)] 115)
  pp : gp ≠ bp ∧ gp ≠ bq
  qq : gq ≠ bp ∧ gq ≠ bq
def snocO {α : Type} (y : Out α) (s : List α) : Out (List α) := match y with
  | .bad b => .bad b
  | .ok x nx => .ok (s ++ [x]) nx
def QuB (W0 : World) (bp bq : Nat) (W : World) : Prop := Chg [bp, bq] W0 W
theorem qbox_own {w : World} {g : Nat} {a b d e f : Value} (h : w.heap[g]? = some (.cells #[a, b, d, e, f] 95)) : w.ownsRow g 95 5 (.slice (some ⟨g, 0, none⟩) 1 1) 1 [a, b, d, e, f] :=
  ⟨rfl, .inr ⟨g, 1, #[a, b, d, e, f], rfl, Nat.le_refl _, h, Nat.le_refl _, by unfold maxLen; omega, rfl, rfl⟩⟩
def PgHR (W0 : World) (bp bq B : Nat) (v1 v2 v3 v4 : Value) (i : Nat) (s : List Str) (W : World) : Prop :=
  ∃ u, W.heap[bq]? = some (.cells #[u, v1, v2, v3, v4] 95) ∧ W.ownsRow B 9 1 u s.length (s.map nmV) ∧ Chg [bp, bq] W0 W ∧ s.length ≤ i ∧ B ≤ W.heap.size
theorem PgHR.on {W0 : World} {bp bq gp gq B i j : Nat} {v1 v2 v3 v4 : Value} {s : List Str} {W W' : World} (l : LayQ W0 bp bq gp gq B) (h : PgHR W0 bp bq B v1 v2 v3 v4 i s W) (hc : Chg [bp] W W') (hj : i ≤ j) : PgHR W0 bp bq B v1 v2 v3 v4 j s W' := by
  obtain ⟨u, h1, h2, h3, h4, h5⟩ := h
  have := l.pq; have := l.q0; have := l.B0
  exact ⟨u, (hc.block bq (lt_of_block h1) (by simp; omega)).trans h1, hc.ownS h2 (fun s hs => by simp at hs; omega), h3.then hc (fun t ht => .inl (by simp at ht; simp [ht])), by omega, Nat.le_trans h5 hc.size⟩
def NmQ (bp : Nat) (A : Option Addr) (c : Nat) (L : List Tok) (y : Out Str) (q : Bool) (a : Str) (w : World) : Prop := match y with
  | .bad b => q = false ∧ PW bp A c L b w
  | .ok x nx => q = true ∧ PW bp A c L nx w ∧ x = a
section
variable {bp c : Nat} {A : Option Addr} {L : List Tok}
set_option maxRecDepth 100000 in
set_option maxHeartbeats 2000000 in
theorem prs_head1 {W0 : World} {bq gp gq B i : Nat} {v1 v2 v3 v4 : Value} {s : List Str} {W : World} (l : LayQ W0 bp bq gp gq B) (hp : PW bp A c L i W) (hr : PgHR W0 bp bq B v1 v2 v3 v4 i s W) :
    Calls Tryz.prog 117 #[.pointer (some ⟨gp, 0, none⟩), .pointer (some ⟨gq, 0, none⟩)] W (RetE bp A c L (nameStep (tkL L) i s) (QuB W0 bp bq) (PgHR W0 bp bq B v1 v2 v3 v4)) := by
  obtain ⟨i0, hi0, hz0, hz1, hz2⟩ := info_parts infoStrP
  have l1 := l.pq; have l2 := l.q0; have l3 := l.B0; have l4 := l.pp; have l5 := l.qq; have l6 := lt_of_block l.hp; have l7 := lt_of_block l.hq
  have hf := hp.few
  have hi := hp.lt
  have HEn := hid hp.ended
  obtain ⟨u, h1, h2, h5, h6, h7⟩ := hr
  have hl3 : gp < W.heap.size := Nat.lt_of_lt_of_le (lt_of_block l.hp) h5.size
  have hl4 : gq < W.heap.size := Nat.lt_of_lt_of_le (lt_of_block l.hq) h5.size
  have h3 : W.heap[gp]? = some (.cells #[.pointer (some ⟨bp, 0, none⟩)] 111) := (h5.block gp (lt_of_block l.hp) (by simp; omega)).trans l.hp
  have h4 : W.heap[gq]? = some (.cells #[.pointer (some ⟨bq, 0, none⟩)] 115) := (h5.block gq (lt_of_block l.hq) (by simp; omega)).trans l.hq
  have k0 := below_one W (.cells #[.string ⟨#[]⟩] 9)
  have hbt := heap_alloc_new W (.cells #[.string ⟨#[]⟩] 9)
  obtain ⟨W1, hW1⟩ : ∃ W1, W.alloc (.cells #[.string ⟨#[]⟩] 9) = W1 := ⟨_, rfl⟩
  rw [hW1] at k0 hbt
  have hsz : W1.heap.size = W.heap.size + 1 := by rw [← hW1]; simp
  have P1 := hid (hp.below k0)
  have hl1 := lt_of_block h1
  have hlp := hp.block_lt
  obtain ⟨Au, cu, rfl⟩ : ∃ Au cu, u = .slice Au s.length cu := own_shape h2
  have HK := hid (fun (W' : World) (cw : Chg [bp, W.heap.size] W1 W') => (show W'.heap[bq]? = some (.cells #[(.slice Au s.length cu), v1, v2, v3, v4] 95) ∧ W'.ownsRow B 9 1 (.slice Au s.length cu) s.length (s.map nmV) ∧ W'.heap[gp]? = some (.cells #[.pointer (some ⟨bp, 0, none⟩)] 111) ∧ W'.heap[gq]? = some (.cells #[.pointer (some ⟨bq, 0, none⟩)] 115) ∧ Chg [bp, bq] W0 W' ∧ W1.heap.size ≤ W'.heap.size from by
    have hcw : Chg [bp] W W' := (chg_below k0).then cw (fun t ht => by simp at ht; rcases ht with ht | ht <;> simp [ht])
    have e : ∀ g, g ≠ bp → g < W.heap.size → W'.heap[g]? = W.heap[g]? := fun g hg hl => hcw.block g hl (by simp; exact hg)
    exact ⟨(e bq (by omega) hl1).trans h1, hcw.ownS h2 (fun s hs => by simp at hs; omega), (e gp (by omega) hl3).trans h3, (e gq (by omega) hl4).trans h4, h5.then hcw (fun t ht => .inl (by simp at ht; simp [ht])), cw.size⟩))
  have c1 := box_cell ((k0.block gp hl3).trans h3) 0
  have HA := hid hW1
  have HOB : Hid (∀ b, Value.ownBlock (.slice Au s.length cu) = some b → B ≤ b ∧ b < W.heap.size) := hid (own_base h2)
  obtain ⟨z, hz⟩ : ∃ z, ((tkL L i).k == 1) = z := ⟨_, rfl⟩
  have HN := hid (prs_name (bn := W.heap.size) (o := 0) (Z := ⟨#[]⟩) P1.out hbt rfl (by omega) hz)
  obtain ⟨y, hy⟩ : ∃ y : Out Str, y = if z = true then .ok (tkL L i).t (i + 1) else .bad i := ⟨_, rfl⟩
  have hst : nameStep (tkL L) i s = snocO y s := by
    unfold nameStep snocO
    rw [hy, ← hz]
    by_cases hk : (tkL L i).k = 1
    · rw [if_neg (by simpa using hk), if_pos (by simpa using hk)]
    · rw [if_pos hk, if_neg (by simpa using hk)]
  have HNx : Hid (∀ x nx, y = .ok x nx → i < nx) := hid (fun x nx e => by
    rw [hy] at e
    split at e
    · injection e with _ e; omega
    · cases e)
  rw [hst]
  clear h1 h2 h3 h4 h5 hp k0 hbt hW1 hz hst
  generalize tkL L i = t at *
  have HY := hid hy
  clear hy
  go_enter Tryz.func117, Tryz.ntmps117
  go_upto_region 2 with (rw [HA.out])
  go_cut [4] (fun sl wx => ∃ (q : Bool) (a : Str), sl = .bool q ∧ Hid (wx.heap[W.heap.size]? = some (.cells #[.string ⟨a.toArray⟩] 9) ∧ (wx.heap[bq]? = some (.cells #[.slice Au s.length cu, v1, v2, v3, v4] 95) ∧ wx.ownsRow B 9 1 (.slice Au s.length cu) s.length (s.map nmV) ∧ wx.heap[gp]? = some (.cells #[.pointer (some ⟨bp, 0, none⟩)] 111) ∧ wx.heap[gq]? = some (.cells #[.pointer (some ⟨bq, 0, none⟩)] 115) ∧ Chg [bp, bq] W0 wx ∧ W1.heap.size ≤ wx.heap.size) ∧ NmQ bp A c L y q a wx))
  case first =>
    cases z with
    | true =>
      simp only [if_true] at HY HN
      go_wp2_with fail
      refine HN.out.mono ?_
      rintro e w2 ⟨rfl, p2, b2, c2⟩
      have HF := hid (And.intro b2 (And.intro (HK.out w2 c2) p2))
      clear p2 b2 c2 HN HK
      go_wp2_with fail
      go_meet
      exact ⟨true, t.t, rfl, hid ⟨HF.out.1, HF.out.2.1, by rw [HY.out]; exact And.intro rfl (And.intro HF.out.2.2 rfl)⟩⟩
    | false =>
      simp only [Bool.false_eq_true, if_false] at HY HN
      go_wp2_with fail
      refine HN.out.mono ?_
      rintro e w2 ⟨rfl, p2, b2, c2⟩
      have HF := hid (And.intro b2 (And.intro (HK.out w2 c2) p2))
      clear p2 b2 c2 HN HK
      go_wp2_with fail
      go_meet
      exact ⟨false, [], rfl, hid ⟨HF.out.1, HF.out.2.1, by rw [HY.out]; exact And.intro rfl HF.out.2.2⟩⟩
  case rest =>
    obtain ⟨q, a, rfl, HF⟩ := hcut
    obtain ⟨w4, rfl⟩ : ∃ w4 : World, w4 = wc := ⟨_, rfl⟩
    clear HK HA P1 c1
    obtain ⟨bt, ⟨g1, g2, g3, g4, g5, g6⟩, hq⟩ := HF.out
    have gown := g2
    have hb1 := lt_of_block g1
    have hb2 := lt_of_block bt
    have hb4 := lt_of_block g4
    have d0 := box_cell HF.out.1 0
    have e1 := box_cell g4 0
    have e2 := box_cell g1 0
    have hgt : W.heap.size ≠ bq := by omega
    have hlen : (s.length + 1) * 16 ≤ 140737488355328 := by omega
    have hBc : B ≤ w4.heap.size := by omega
    clear g1 g3 g4 g5 bt hq
    go_upto_region 3 with fail
    go_cut [] (fun wx => Hid (∃ g8 cap8, wx.heap[bq]? = some (.cells #[(.slice (some ⟨g8, 0, none⟩) (s.length + 1) cap8), v1, v2, v3, v4] 95) ∧ Chg [bp, bq] W0 wx ∧ (∀ j, PW bp A c L j w4 → PW bp A c L j wx) ∧ w4.heap.size ≤ wx.heap.size ∧ wx.ownsRow B 9 1 (.slice (some ⟨g8, 0, none⟩) (s.length + 1) cap8) (s.length + 1) (s.map nmV ++ [.string ⟨a.toArray⟩])))
    case first =>
      have HFin := hid (fun (w8 : World) (g8 cap8 : Nat) (hown8 : w8.ownsRow B 9 1 (.slice (some ⟨g8, 0, none⟩) (s.length + 1) cap8) (s.length + 1) (s.map nmV ++ [.string ⟨a.toArray⟩])) (hg8 : w4.grownBy w8 (Value.ownBlock (.slice Au s.length cu))) =>
        (show Hid (∃ g8' cap8', (w8.setCell ⟨bq, 0, none⟩ (.slice (some ⟨g8, 0, none⟩) (s.length + 1) cap8)).heap[bq]? = some (.cells #[(.slice (some ⟨g8', 0, none⟩) (s.length + 1) cap8'), v1, v2, v3, v4] 95) ∧ Chg [bp, bq] W0 (w8.setCell ⟨bq, 0, none⟩ (.slice (some ⟨g8, 0, none⟩) (s.length + 1) cap8)) ∧ (∀ j, PW bp A c L j w4 → PW bp A c L j (w8.setCell ⟨bq, 0, none⟩ (.slice (some ⟨g8, 0, none⟩) (s.length + 1) cap8))) ∧ w4.heap.size ≤ (w8.setCell ⟨bq, 0, none⟩ (.slice (some ⟨g8, 0, none⟩) (s.length + 1) cap8)).heap.size ∧ (w8.setCell ⟨bq, 0, none⟩ (.slice (some ⟨g8, 0, none⟩) (s.length + 1) cap8)).ownsRow B 9 1 (.slice (some ⟨g8', 0, none⟩) (s.length + 1) cap8') (s.length + 1) (s.map nmV ++ [.string ⟨a.toArray⟩])) from hid (by
          obtain ⟨bt, ⟨g1, g2, g3, g4, g5, g6⟩, _⟩ := HF.out
          have hx : ∀ b, Value.ownBlock (.slice Au s.length cu) = some b → B ≤ b := fun b e => (HOB.out b e).1
          have hb8 := (hg8.block bq (lt_of_block g1) (fun e => by have := hx bq e.symm; omega)).trans g1
          have hg9 := ren_set w8 bq 0 (.slice (some ⟨g8, 0, none⟩) (s.length + 1) cap8)
          refine ⟨g8, cap8, heap_setCell_same w8 bq 0 _ _ _ hb8, (g5.grown hg8 (fun b e => .inr (by have := hx b e; omega))).set (.inl (by simp)) 0 _, fun j P => (app_store (o := 0) (v8 := (.slice (some ⟨g8, 0, none⟩) (s.length + 1) cap8)) P g5 (.inl (by simp)) (by omega) g1 (by omega) (by omega) hx hg8).1, by simp only [World.setCell, Array.size_modify]; exact hg8.size, ?_⟩
          exact hown8.kept hg9 (ren_apart hown8 (qbox_own hb8) (by decide)))))
      go_region_law (refine step_append_new_drew Tryz.underlying27 hi0 hz0 hz1 hz2 rfl (by decide) (by decide) rfl rfl rfl gown rfl rfl rfl hlen hBc ?_; intro v8 w8 hown8 hg8; obtain ⟨g8, cap8, rfl⟩ := own_slice1 hown8; have m2 := box_cell ((hg8.block bq hb1 (fun e => by have := (HOB.out bq e.symm).1; omega)).trans HF.out.2.1.1) 0; have f82 := box_free ((hg8.block bq hb1 (fun e => by have := (HOB.out bq e.symm).1; omega)).trans HF.out.2.1.1) 0; have m1 := box_cell ((hg8.block gq hb4 (fun e => by have := (HOB.out gq e.symm).1; omega)).trans HF.out.2.1.2.2.2.1) 0; have HFin8 := HFin.out w8 g8 cap8 hown8 ⟨hg8.os, hg8.tape, hg8.output, hg8.size, hg8.block⟩)
      all_goals (go_wp2_with fail; go_meet; exact HFin8)
    case rest =>
      have HQ := hid HF.out.2.2
      have hBx : B ≤ wc.heap.size := by have := hcut.out.choose_spec.choose_spec.2.2.2.1; omega
      clear HF HOB gown hlen hBc d0 e1 e2 hb1 hb2 hb4
      obtain ⟨g8, cap8, r1, r2, r3, r4, r5⟩ := hcut.out
      cases y with
      | bad b =>
        obtain ⟨rfl, hq⟩ := HQ.out
        have HG := hid (And.intro (r3 _ hq) r2)
        clear r1 r2 r3 r4 r5 hq HQ hcut
        go_wp2
        go_ret
        exact ⟨rfl, HG.out.1, HG.out.2⟩
      | ok x nx =>
        obtain ⟨rfl, hq, hcs⟩ := HQ.out
        have hnx := HNx.out x nx rfl
        have HG := hid (And.intro (r3 _ hq) (And.intro r1 (And.intro r2 (hcs ▸ r5))))
        clear r1 r2 r3 r5 hq HQ hcut hcs
        go_wp2
        go_ret
        obtain ⟨q1, q2, q3, q4⟩ := HG.out
        exact ⟨rfl, q1, ⟨_, q2, by simpa [nmV] using q4, q3, by simp; omega, hBx⟩⟩
end
end

/-! ### PgG -/
section
open Go.RowKit

abbrev qryA (v0 : Value) (a : Int) (s : ByteArray) (v3 v4 : Value) : Array Value := #[v0, .int .i64 a, .string s, v3, v4]
def aggsB : List ByteArray := [⟨#[99, 111, 117, 110, 116]⟩, ⟨#[115, 117, 109]⟩, ⟨#[109, 105, 110]⟩, ⟨#[109, 97, 120]⟩]
def aggsL : List Str := [sCount, sSum, sMin, sMax]
theorem any_aggs (t : Tok) : isAny t aggsB = (aggsL.findIdx? fun s => isT t s).isSome := by
  rw [List.findIdx?_isSome]
  unfold isAny isT
  by_cases h : (t.k == 4 || t.k == 5) = true
  · rw [h, Bool.true_and]
    have key : Lib.containsS aggsB ⟨t.t.toArray⟩ = true ↔ (aggsL.any fun s => true && t.t == s) = true := by
      rw [Lib.containsS_iff]
      simp only [aggsB, aggsL, sCount, sSum, sMin, sMax, List.mem_cons, ByteArray.mk.injEq, List.not_mem_nil, or_false, Bool.true_and, List.any_cons, List.any_nil, Bool.or_false, Bool.or_eq_true, beq_iff_eq]
      constructor
      · rintro (h | h | h | h) <;> have h2 := congrArg Array.toList h <;> simp at h2 <;> simp [h2]
      · rintro (h | h | h | h) <;> simp [h]
    exact Bool.eq_iff_iff.2 key
  · have h' : (t.k == 4 || t.k == 5) = false := by simpa using h
    rw [h']; simp
theorem agg_text {t : Tok} {o : Nat} (h : (aggsL.findIdx? fun s => isT t s) = some o) : o < 4 ∧ t.t = aggsL.getD o [] ∧ isT t (aggsL.getD o []) = true := by
  obtain ⟨h1, h2, _⟩ := List.findIdx?_eq_some_iff_getElem.1 h
  have e : aggsL.getD o [] = aggsL[o] := by rw [List.getD_eq_getElem?_getD, List.getElem?_eq_getElem h1]; rfl
  refine ⟨h1, ?_, by rw [e]; exact h2⟩
  have h3 := h2
  unfold isT at h3
  simp only [Bool.and_eq_true, beq_iff_eq] at h3
  rw [e]; exact h3.2
theorem aggG_eq (tk : Nat → Tok) (i : Nat) (q : Qry) : aggG tk i q = match aggsL.findIdx? fun s => isT (tk i) s with
    | none => .bad i
    | some 0 => .ok { q with agg := 1 } (i + 1)
    | some (n + 1) => if (tk (i + 1)).k ≠ 1 then .bad (i + 1) else .ok { q with agg := (n + 2 : Nat), aggVar := (tk (i + 1)).t } (i + 2) := by
  unfold aggG aggT aggsL
  simp only [List.findIdx?_cons, List.findIdx?_nil]
  cases h0 : isT (tk i) sCount
  · cases h1 : isT (tk i) sSum
    · cases h2 : isT (tk i) sMin
      · cases h3 : isT (tk i) sMax <;> simp
      · simp
    · simp
  · simp
/-- What aggregate answers. -/
def RetGg (bp : Nat) (A : Option Addr) (c : Nat) (L : List Tok) (bq : Nat) (v0 v3 v4 : Value) (o : Out Qry) (w : World) (e : Ending) (w' : World) : Prop := (match o with
  | .bad b => e = .returned (.bool false) ∧ PW bp A c L b w'
  | .ok q nx => e = .returned (.bool true) ∧ PW bp A c L nx w' ∧ w'.heap[bq]? = some (.cells (qryA v0 q.agg ⟨q.aggVar.toArray⟩ v3 v4) 95)) ∧ Chg [bp, bq] w w'
section
variable {bp c k : Nat} {A : Option Addr} {L : List Tok} {w : World}
set_option maxRecDepth 100000 in
set_option maxHeartbeats 2000000 in
theorem prs_agg (h : PW bp A c L k w) {bq : Nat} {v0 v3 v4 : Value} (hb : w.heap[bq]? = some (.cells (qryA v0 0 ⟨#[]⟩ v3 v4) 95)) (hne : bp < bq) {hd : List Str} {o : Out Qry} (ho : aggG (tkL L) k ⟨hd, 0, [], [], []⟩ = o) :
    Calls Tryz.prog 118 #[.pointer (some ⟨bp, 0, none⟩), .pointer (some ⟨bq, 0, none⟩)] w (RetGg bp A c L bq v0 v3 v4 o w) := by
  have k0 := below_one w (.cells #[.string ⟨#[99, 111, 117, 110, 116]⟩, .string ⟨#[115, 117, 109]⟩, .string ⟨#[109, 105, 110]⟩, .string ⟨#[109, 97, 120]⟩] 9)
  obtain ⟨x, hx⟩ : ∃ x, (aggsL.findIdx? fun s => isT (tkL L k) s) = x := ⟨_, rfl⟩
  have hz : isAny (tkL L k) aggsB = x.isSome := by rw [any_aggs, hx]
  have hnew := heap_alloc_new w (.cells #[.string ⟨#[99, 111, 117, 110, 116]⟩, .string ⟨#[115, 117, 109]⟩, .string ⟨#[109, 105, 110]⟩, .string ⟨#[109, 97, 120]⟩] 9)
  have hT : TxtsAt (w.alloc (.cells #[.string ⟨#[99, 111, 117, 110, 116]⟩, .string ⟨#[115, 117, 109]⟩, .string ⟨#[109, 105, 110]⟩, .string ⟨#[109, 97, 120]⟩] 9)) w.heap.size 0 aggsB := fun j hj => by
    rw [Nat.zero_add, box_cell hnew]
    have : j = 0 ∨ j = 1 ∨ j = 2 ∨ j = 3 := by simp [aggsB] at hj; omega
    rcases this with rfl | rfl | rfl | rfl <;> rfl
  have H1 := hid (prs_take (m := 4) (h.below k0) hT rfl (by decide) hz)
  have hl := lt_of_block hb
  have HB := hid (fun W' (c : Chg [bp] w W') => (c.block bq hl (by simp; omega)).trans hb)
  have K0 := hid (chg_below (S := [bp]) k0)
  rw [aggG_eq, hx] at ho
  clear h hb hz hnew hT
  cases x with
  | none =>
    simp only [Option.isSome_none] at H1
    simp only at ho
    subst ho
    clear hx
    go_enter Tryz.func118, Tryz.ntmps118
    go_wp2_with fail
    refine H1.out.mono ?_
    rintro e w1 ⟨rfl, p1, c1⟩
    have HF := hid (And.intro p1 (K0.out.trans c1))
    clear p1 c1 H1 HB K0
    go_wp2
    go_ret
    exact ⟨⟨rfl, HF.out.1⟩, HF.out.2.mono (fun s hs => by simp at hs; simp [hs])⟩
  | some m =>
    simp only [Option.isSome_some] at H1
    obtain ⟨hm, ht, _⟩ := agg_text hx
    unfold RetK at H1
    rw [ht] at H1
    clear hx ht
    have : m = 0 ∨ m = 1 ∨ m = 2 ∨ m = 3 := by omega
    clear hm
    obtain ⟨z, hz⟩ : ∃ z, ((tkL L (k + 1)).k == 1) = z := ⟨_, rfl⟩
    have HN := hid (fun V (p : PW bp A c L (k + 1) V) (a : Int) (hb : V.heap[bq]? = some (.cells (qryA v0 a ⟨#[]⟩ v3 v4) 95)) => prs_name (bn := bq) (o := 2) (Z := ⟨#[]⟩) p hb rfl hne hz)
    rcases this with rfl | rfl | rfl | rfl
    · simp only at ho
      subst ho
      clear HN hz
      go_enter Tryz.func118, Tryz.ntmps118
      go_wp2_with fail
      refine H1.out.mono ?_
      rintro e w1 ⟨rfl, p1, c1⟩
      have b1 := HB.out w1 (K0.out.trans c1)
      have e1 := box_cell b1 1
      have f1 := box_free b1 1
      have l1 := lt_of_block b1
      have HF := hid (And.intro p1 (And.intro b1 (K0.out.trans c1)))
      clear p1 c1 b1 H1 HB K0
      go_wp2
      go_ret
      obtain ⟨p1, b1, c1⟩ := HF.out
      exact ⟨⟨rfl, p1.chg ((Chg.refl [bq] w1).set (b := bq) (.inl (by simp)) 1 _) (fun s hs => by simp at hs; omega), heap_setCell_same w1 bq 1 _ _ _ b1⟩, (c1.mono (fun s hs => by simp at hs; simp [hs])).set (.inl (by simp)) 1 _⟩
    all_goals
      have HO := hid ho
      clear ho
      go_enter Tryz.func118, Tryz.ntmps118
      go_wp2_with fail
      refine H1.out.mono ?_
      rintro e w1 ⟨rfl, p1, c1⟩
      have b1 := HB.out w1 (K0.out.trans c1)
      have e1 := box_cell b1 1
      have f1 := box_free b1 1
      have l1 := lt_of_block b1
      have HF := hid (And.intro p1 (And.intro b1 (K0.out.trans c1)))
      clear p1 c1 b1 H1 HB K0
      go_wp2_with fail
      obtain ⟨p1, b1, c1⟩ := HF.out
      refine (HN.out _ (p1.chg ((Chg.refl [bq] w1).set (b := bq) (.inl (by simp)) 1 _) (fun s hs => by simp at hs; omega)) _ (heap_setCell_same w1 bq 1 _ _ _ b1)).mono ?_
      rintro e w2 ⟨rfl, p2, b2, c2⟩
      have hO := HO.out
      have HG := hid (And.intro p2 (And.intro b2 (((c1.mono (fun s hs => by simp at hs; simp [hs])).set (b := bq) (.inl (by simp)) 1 _).trans c2)))
      clear p1 b1 c1 p2 b2 c2 HF HN HO e1 f1 l1
      cases z with
      | true =>
        have hk1 : (tkL L (k + 1)).k = 1 := by simpa using hz
        try simp only at hO
        rw [if_neg (by simpa using hk1)] at hO
        subst hO
        clear hz hk1
        go_wp2
        go_ret
        obtain ⟨p2, b2, c2⟩ := HG.out
        exact ⟨⟨rfl, p2, b2⟩, c2⟩
      | false =>
        have hk1 : (tkL L (k + 1)).k ≠ 1 := by simpa using hz
        try simp only at hO
        rw [if_pos hk1] at hO
        subst hO
        clear hz hk1
        go_wp2
        go_ret
        obtain ⟨p2, b2, c2⟩ := HG.out
        exact ⟨⟨rfl, p2⟩, c2⟩
end
end
end Go.Proofs.YtjhnopnppimnhaaGreatDoor
