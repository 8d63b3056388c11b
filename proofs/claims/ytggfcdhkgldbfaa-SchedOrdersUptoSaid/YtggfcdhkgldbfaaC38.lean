/-
  PARTS of a claim, merged by segs.py: CwOr2.
-/
import Derived.Test.YtggfcdhkgldbfaaC37
namespace Go.Proofs.Ytggfcdhkgldbfaa
set_option linter.unusedSimpArgs false
set_option linter.unusedVariables false

/-! ### CwOr2 -/
section
set_option linter.unusedSimpArgs false
open Go Go.Conc Go.RowKit Go.ConcR.Gen Cw

theorem events_store_str (P : Program) (w : World) (es : Array Event) (a : Addr) (m : Mode) (z : ByteArray) : (store a (.string z) m).events P w es = storedEv P w es a (.string z) m := events_store P w es a _ m rfl
theorem repl_cons {L : List (List ByteArray)} {A B : List Nat} {E : List (Int × ByteArray)} {k : Nat} {p : Int × ByteArray} (h : repl L A (E.drop k) = some B) (hp : E[k]? = some p) (hl : A.length = L.length) :
    ∃ tt x : Nat, p.1 = (tt : Int) ∧ tt < L.length ∧ A[tt]? = some x ∧ (Sk L tt)[x]? = some p.2 ∧ repl L (A.set tt (x + 1)) (E.drop (k + 1)) = some B := by
  obtain ⟨hlt, rfl⟩ := List.getElem?_eq_some_iff.1 hp
  rw [List.drop_eq_getElem_cons hlt, repl] at h
  split at h
  · rename_i hc
    obtain ⟨h1, h2, h3⟩ := hc
    have h4 : E[k].1.toNat < A.length := by omega
    have h5 : A.getD E[k].1.toNat 0 = A[E[k].1.toNat] := by simp [List.getD_eq_getElem?_getD, h4]
    rw [h5] at h3 h
    exact ⟨E[k].1.toNat, A[E[k].1.toNat], by omega, by omega, List.getElem?_eq_getElem h4, h3, h⟩
  · cases h
/-- The counts, in a block of the call's own. -/
structure RG (W : World) (gb : Nat) (A : List Nat) (w : World) : Prop where
  ext : Ext Vn W w
  lo : W.heap.size ≤ gb
  at_ : ∃ cur : Array Value, w.heap[gb]? = some (.cells cur 3 (0, 0)) ∧ ∀ (k x : Nat), A[k]? = some x → cur[k]? = some (Value.int .i64 (x : Int))
/-- .. and an event beside them. -/
structure RX (W : World) (gb : Nat) (A : List Nat) (xb : Nat) (i : Int) (s : ByteArray) (w : World) : Prop where
  rg : RG W gb A w
  xlo : W.heap.size ≤ xb
  xne : xb ≠ gb
  xat : w.heap[xb]? = some (.cells #[.int .i64 i, .string s] 40 (0, 0))
section
variable {Sh : Loc → Prop} {W w w' : World} {gb xb : Nat} {A : List Nat} {i : Int} {s : ByteArray}
theorem RG.rl (h : RG W gb A w) (r : Ext Vn w w') : RG W gb A w' := by
  obtain ⟨cur, h1, h2⟩ := h.at_
  exact ⟨h.ext.trans r, h.lo, cur, (r.same _ (Array.getElem?_eq_some_iff.1 h1).1 id).trans h1, h2⟩
theorem RX.rl (h : RX W gb A xb i s w) (r : Ext Vn w w') : RX W gb A xb i s w' :=
  ⟨h.rg.rl r, h.xlo, h.xne, (r.same _ (Array.getElem?_eq_some_iff.1 h.xat).1 id).trans h.xat⟩
theorem RG.lt (h : RG W gb A w) : gb < w.heap.size := by
  obtain ⟨cur, h1, _⟩ := h.at_
  exact (Array.getElem?_eq_some_iff.1 h1).1
theorem RG.cell (h : RG W gb A w) {k x : Nat} (hk : A[k]? = some x) : w.cell? ⟨gb, k, none⟩ = some (.int .i64 x) := by
  obtain ⟨cur, h1, h2⟩ := h.at_
  simp [World.cell?, h1, h2 k x hk]
theorem RG.unfrozen (h : RG W gb A w) (k : Nat) : w.frozen? ⟨gb, k, none⟩ = false := by
  obtain ⟨cur, h1, _⟩ := h.at_
  simp [World.frozen?, h1]
theorem RX.c0 (h : RX W gb A xb i s w) : w.cell? ⟨xb, 0, none⟩ = some (.int .i64 i) := by simp [World.cell?, h.xat]
theorem RX.c1 (h : RX W gb A xb i s w) : w.cell? ⟨xb, 1, none⟩ = some (.string s) := by simp [World.cell?, h.xat]
theorem RG.set (h : RG W gb A w) {k : Nat} (hk : k < A.length) (x : Nat) : RG W gb (A.set k x) (w.setCell ⟨gb, k, none⟩ (.int .i64 x)) := by
  have hl := h.lo
  have hs := fun {b : Nat} (hb : b ≠ gb) => heap_setCell_ne w ⟨gb, k, none⟩ (.int .i64 (x : Nat)) hb
  obtain ⟨cur, h1, h2⟩ := h.at_
  refine ⟨⟨by rw [size_setCell']; exact h.ext.size, fun b hb _ => (hs (by omega)).trans (h.ext.same b hb id), h.ext.tape, h.ext.os, h.ext.output⟩, h.lo, cur.set! k (.int .i64 (x : Nat)), ?_, fun j y hj => ?_⟩
  · simp only [World.setCell, Array.getElem?_modify, if_true, h1, Option.map_some]
    rfl
  · have hkc : k < cur.size := (Array.getElem?_eq_some_iff.1 (h2 k _ (List.getElem?_eq_getElem hk))).1
    rw [List.getElem?_set] at hj
    by_cases e : k = j
    · subst e
      simp [hk] at hj
      subst hj
      simp [hkc]
    · rw [if_neg e] at hj
      have := h2 j y hj
      simp [Array.getElem?_setIfInBounds, e, this]
theorem rg_of {n : Nat} {u : Value} (hF : Ext Vn W w) (h : w.ownsRow W.heap.size 3 1 u n (ints A)) (hn : 0 < n) : ∃ gb cap, u = .slice (some ⟨gb, 0, none⟩) n cap ∧ n ≤ cap ∧ RG W gb A w := by
  rcases h.2 with ⟨_, h0⟩ | ⟨g, cap, cur, rfl, hb, hg, hle, _, _, ht⟩
  · omega
  · refine ⟨g, cap, rfl, hle, hF, hb, cur, hg, fun k x hk => ?_⟩
    have h1 : (ints A)[k]? = some (.int .i64 (x : Nat)) := by simp [ints, hk]
    rw [← ht] at h1
    have h2 : k < n * 1 := by
      have := (List.getElem?_eq_some_iff.1 h1).1
      simp only [List.length_take] at this
      omega
    rw [List.getElem?_take_of_lt h2] at h1
    simpa using h1
/-- An event of one's own. -/
theorem rx_new (h : RG W gb A w) : ∃ xb wz, w.alloc (.cells #[.int .i64 0, .string ⟨#[]⟩] 40) = wz ∧ w.heap.size = xb ∧ RX W gb A xb 0 ⟨#[]⟩ wz :=
  ⟨_, _, rfl, rfl, ⟨h.rl (Ext.alloc Vn w _), h.ext.size, by have := h.lt; omega, heap_alloc_new w _⟩⟩
theorem RX.unf (h : RX W gb A xb i s w) (k : Nat) : w.frozen? ⟨xb, k, none⟩ = false := by simp [World.frozen?, h.xat]
theorem RX.put {j : Int} {z : ByteArray} (h : RX W gb A xb i s w) : RX W gb A xb j z ((w.setCell ⟨xb, 0, none⟩ (.int .i64 j)).setCell ⟨xb, 1, none⟩ (.string z)) := by
  have hl := h.xlo
  have hs : ∀ b, b ≠ xb → ((w.setCell ⟨xb, 0, none⟩ (.int .i64 j)).setCell ⟨xb, 1, none⟩ (.string z)).heap[b]? = w.heap[b]? := fun b hb => by
    rw [heap_setCell_ne _ _ _ hb, heap_setCell_ne _ _ _ hb]
  obtain ⟨cur, h1, h2⟩ := h.rg.at_
  refine ⟨⟨⟨by rw [size_setCell', size_setCell']; exact h.rg.ext.size, fun b hb _ => (hs b (by omega)).trans (h.rg.ext.same b hb id), h.rg.ext.tape, h.rg.ext.os, h.rg.ext.output⟩, h.rg.lo, cur, (hs gb (Ne.symm h.xne)).trans h1, h2⟩, h.xlo, h.xne, ?_⟩
  simp only [World.setCell, Array.getElem?_modify, if_true, h.xat, Option.map_some]
  rfl
theorem RX.c1' (h : RX W gb A xb i s w) (j : Int) : (w.setCell ⟨xb, 0, none⟩ (.int .i64 j)).cell? ⟨xb, 1, none⟩ = some (.string s) := by
  simp [World.cell?, World.setCell, Array.getElem?_modify, h.xat]
theorem RX.u1' (h : RX W gb A xb i s w) (j : Int) : (w.setCell ⟨xb, 0, none⟩ (.int .i64 j)).frozen? ⟨xb, 1, none⟩ = false := by
  simp [World.frozen?, World.setCell, Array.getElem?_modify, h.xat]
theorem RX.put_hd (hS : ShOk Sh W) (h : RX W gb A xb i s w) {j : Int} {z : ByteArray} {es : Array Event} (hes : ∀ e ∈ es, e = ⟨.cell ⟨xb, 0, none⟩, true, false⟩ ∨ e = ⟨.cell ⟨xb, 1, none⟩, true, false⟩) :
    HDq (Cx0 Sh) w ((w.setCell ⟨xb, 0, none⟩ (.int .i64 j)).setCell ⟨xb, 1, none⟩ (.string z)) es := by
  have F := floor0 hS
  have hlt : xb < w.heap.size := (Array.getElem?_eq_some_iff.1 h.xat).1
  have hsz : w.heap.size ≤ ((w.setCell ⟨xb, 0, none⟩ (.int .i64 j)).setCell ⟨xb, 1, none⟩ (.string z)).heap.size := by rw [size_setCell', size_setCell']; exact Nat.le_refl _
  refine hdq_grown F h.rg.ext.size (row := some xb) ⟨rfl, rfl, rfl, hsz, fun b hb hne => ?_⟩ (fun g hg => ?_) fun e he => .inl ?_
  · have hb' : b ≠ xb := fun e => hne (by rw [e])
    rw [heap_setCell_ne _ _ _ hb', heap_setCell_ne _ _ _ hb']
  · cases hg
    exact ⟨F.ok h.xlo, nobox _⟩
  · rcases hes e he with rfl | rfl
    · exact ⟨_, rfl, Nat.lt_of_lt_of_le hlt hsz, (F.ok h.xlo).sh _ rfl, fun _ hp => hp.elim (fun h => h) fun x => nobox _ x.2.2⟩
    · exact ⟨_, rfl, Nat.lt_of_lt_of_le hlt hsz, (F.ok h.xlo).sh _ rfl, fun _ hp => hp.elim (fun h => h) fun x => nobox _ x.2.2⟩
end
set_option maxRecDepth 100000 in
set_option maxHeartbeats 8000000 in
theorem c_o2 {Sh : Loc → Prop} {W : World} {main : Bool} (hS : ShOk Sh W) {lp lo gb cap : Nat} {n lcap ec : Nat} {ae : Option Addr} {us : List Value} {L : List (List ByteArray)} {E : List (Int × ByteArray)} {B : List Nat} {sD sK : Value} (hrow : ∀ (k : Nat) (u : Value), us[k]? = some u → W.cell? ⟨lp, lo + k, none⟩ = some u) (hn1 : us.length ≤ n) (hn2 : n ≤ us.length) (hnL : L.length ≤ n) (hnL2 : n ≤ L.length) (hn10 : n ≤ 10) (hk : ∀ k, ∃ a c, slK us k = .slice a (Sk L k).length c ∧ Nts a (Sk L k) W) (hk20 : ∀ k, (Sk L k).length ≤ 20) (hE : EvRow W ae E) (hEl : E.length ≤ 1000000) (hcap : n ≤ cap) :
    ∃ k, ∀ (Qx : Exit → Act → World → Prop) (T : Array Value) (A : List Nat) (w : World), T.size = 159 → T[1]? = some (.slice (some ⟨lp, lo, none⟩) n lcap) → T[6]? = some (.slice ae E.length ec) → T[8]? = some sD → T[10]? = some (.slice (some ⟨gb, 0, none⟩) n cap) → T[11]? = some sK → A.length ≤ n ∧ n ≤ A.length → repl L A E = some B → RG W gb A w →
      cdO2.wpC Try.prog main (Ext Vn) (HDq (Cx0 Sh)) 4 k (Exit.then (fun a' w' => ∃ T, a' = ⟨T, []⟩ ∧ T.size = 159 ∧ T[1]? = some (.slice (some ⟨lp, lo, none⟩) n lcap) ∧ T[8]? = some sD ∧ T[10]? = some (.slice (some ⟨gb, 0, none⟩) n cap) ∧ T[11]? = some sK ∧ RG W gb B w') Qx) ⟨T, []⟩ w := by
  obtain ⟨it, hit, hz1', hz2', hz3'⟩ := intInfo
  co_apply Exists.intro
  intro Qx T A w hT h1 h6 h8 h10 h11 hAl hrp hF
  rw [arrG159 T hT]
  simp only [gv_of h1, gv_of h6, gv_of h8, gv_of h10, gv_of h11]
  simp only [cdO2, loopsO, restO, bodyO, rt, lf, Try.f4, Option.getD_some]
  co_apply wpC_seq (TT Sh)
  co_reg (TT Sh)
  co_op RG.rl hF (co_quiet (TT Sh))
  co_op RG.rl hF (co_quiet (TT Sh))
  co_op RG.rl hF (co_quiet (TT Sh))
  co_apply opsC_nil (TT Sh)
  co_then
  co_apply wpC_block (TT Sh)
  co_apply wpC_loop (TT Sh) (fun a' w' => ∃ (T : Array Value) (j : Nat) (A : List Nat), a' = ⟨T, []⟩ ∧ T.size = 159 ∧ T[1]? = some (.slice (some ⟨lp, lo, none⟩) n lcap) ∧ T[8]? = some (sD) ∧ T[10]? = some (.slice (some ⟨gb, 0, none⟩) n cap) ∧ T[11]? = some (sK) ∧ T[82]? = some (.slice ae E.length ec) ∧ T[83]? = some (.int .i64 E.length) ∧ T[84]? = some (.int .i64 j) ∧ j ≤ E.length ∧ (A.length ≤ n ∧ n ≤ A.length) ∧ repl L A (E.drop j) = some B ∧ RG W gb A w') (fun a' _ => E.length - slotN a' 84) _ (E.length)
  · exact ⟨_, 0, A, rfl, rfl, rfl, rfl, rfl, rfl, rfl, rfl, rfl, by omega, hAl, hrp, hF⟩
  · simp [slotN]
  clear hF hrp hAl A w
  rintro a' w ⟨T, j, A, rfl, hT, h1, h8, h10, h11, h82, h83, h84, hi, hAl, hrp, hF⟩
  rw [arrG159 T hT]
  simp only [gv_of h1, gv_of h8, gv_of h10, gv_of h11, gv_of h82, gv_of h83, gv_of h84]
  co_apply wpC_seq (TT Sh)
  co_reg (TT Sh)
  co_op RG.rl hF (co_quiet (TT Sh))
  co_apply opsC_nil (TT Sh)
  co_then
  co_apply wpC_seq (TT Sh)
  co_split (TT Sh) (decide ((j : Int) < (E.length : Int)))
  · intro ht
    have hjl : j < E.length := by simpa using ht
    co_apply wpC_skip (TT Sh)
    co_then
    co_apply wpC_seq (TT Sh)
    co_apply wpC_block (TT Sh)
    co_apply wpC_seq (TT Sh)
    obtain ⟨px, hpx⟩ : ∃ p, E[j]? = some p := ⟨_, List.getElem?_eq_getElem hjl⟩
    obtain ⟨tt, x, hp1, htL, hAx, hsx0, hrp'⟩ := repl_cons hrp hpx (by omega)
    obtain ⟨sx, hp2⟩ : ∃ sx, sx = px.2 := ⟨_, rfl⟩
    have hpe : E[j]? = some ((tt : Int), sx) := by rw [hpx, ← hp1, hp2]
    have hsx : (Sk L tt)[x]? = some sx := by rw [hp2]; exact hsx0
    clear hpx hsx0 hp1 hp2 hrp
    have hxl := (List.getElem?_eq_some_iff.1 hsx).1
    have hx20 := hk20 tt
    obtain ⟨eb, eo, hae, hec⟩ := hE.resolve_left (fun e => by rw [e] at hpe; simp at hpe)
    have hej := hec j _ hpe
    simp only at hej
    obtain ⟨uu, huu⟩ : ∃ uu, us[tt]? = some uu := ⟨_, List.getElem?_eq_getElem (by omega)⟩
    obtain ⟨sa, sc, hut0, hnt⟩ := hk tt
    obtain ⟨sp, so, hsa, hsc⟩ := hnt.resolve_left (fun e => by rw [e] at hxl; simp at hxl)
    have hut : us[tt]? = some (.slice (some ⟨sp, so, none⟩) (Sk L tt).length sc) := by rw [← hsa, ← hut0]; simp [slK, huu]
    clear hut0 hnt huu
    have htn : tt < n := by omega
    simp only [hae]
    co_reg (TT Sh)
    co_opw RG.rl hF (skip) (co_still (TT Sh))
    co_opw RG.rl hF (have hc0 := cell_ext hF.ext (hej).1; have hc1 := cell_ext hF.ext (hej).2) (refine hdq_read (fun e he => ?_); have hm := mem_listed he; simp [go_sem, *] at hm; rcases hm with rfl | rfl; exact ⟨_, rfl, block_of_cell hc0, sh_no hS (hej).1 (by rfl)⟩; exact ⟨_, rfl, block_of_cell hc1, sh_no hS (hej).2 (by rfl)⟩)
    clear hc0 hc1
    co_opw RG.rl hF (skip) (rw [listed_nil (by simp [go_sem, *])]; exact al_hd (by simp))
    obtain ⟨xb, wz, hwz, hxb, hX⟩ := rx_new hF
    rw [hwz, hxb]
    clear hwz hxb hF
    have hF := hX
    clear hX
    co_opw RX.rl hF (have hc0 := hF.c0; have hz0 := hF.unf 0; have hc1 := hF.c1' (tt : Int); have hzz := hF.u1' (tt : Int)) (exact hF.put_hd hS (fun e he => by have hm := mem_listed he; simp [go_sem, storedEv, events_store_int, events_store_str, *] at hm; exact hm))
    clear hc0 hz0 hc1 hzz
    replace hF := hF.put (j := (tt : Int)) (z := sx)
    co_apply opsC_nil (TT Sh)
    co_then
    co_apply wpC_seq (TT Sh)
    co_apply wpC_seq (TT Sh)
    have hd1 : decide ((tt : Int) < 0) = false := decide_eq_false (by omega)
    have hd2 : decide (n ≤ tt) = false := decide_eq_false (by omega)
    have hd3 : decide ((Sk L tt).length ≤ x) = false := decide_eq_false (by omega)
    co_held (TT Sh) (lets0 Sh) draw_ext (RX W gb A xb (tt : Int) sx) RX.rl hF
    co_take 0 (TT Sh) RX.rl hF hw (skip) (co_quiet (TT Sh))
    try simp only [hd1, hd2, hd3]
    co_take 1 (TT Sh) RX.rl hF hw (have hc := hw.c0) (refine rd_own hS hw.xlo (block_of_cell hc) (fun e he => ?_); have hm := mem_listed he; simp [go_sem, *] at hm; exact hm)
    try simp only [hd1, hd2, hd3]
    co_take 2 (TT Sh) RX.rl hF hw (skip) (co_quiet (TT Sh))
    try simp only [hd1, hd2, hd3]
    co_take 3 (TT Sh) RX.rl hF hw (skip) (co_quiet (TT Sh))
    try simp only [hd1, hd2, hd3]
    co_take 4 (TT Sh) RX.rl hF hw (skip) (co_quiet (TT Sh))
    try simp only [hd1, hd2, hd3]
    co_take 5 (TT Sh) RX.rl hF hw (have hc := hw.c0) (refine rd_own hS hw.xlo (block_of_cell hc) (fun e he => ?_); have hm := mem_listed he; simp [go_sem, *] at hm; exact hm)
    try simp only [hd1, hd2, hd3]
    co_take 6 (TT Sh) RX.rl hF hw (skip) (co_quiet (TT Sh))
    try simp only [hd1, hd2, hd3]
    co_take 7 (TT Sh) RX.rl hF hw (skip) (co_quiet (TT Sh))
    try simp only [hd1, hd2, hd3]
    co_take 8 (TT Sh) RX.rl hF hw (skip) (co_quiet (TT Sh))
    try simp only [hd1, hd2, hd3]
    co_take 9 (TT Sh) RX.rl hF hw (skip) (co_quiet (TT Sh))
    try simp only [hd1, hd2, hd3]
    co_take 10 (TT Sh) RX.rl hF hw (skip) (co_quiet (TT Sh))
    try simp only [hd1, hd2, hd3]
    co_take 11 (TT Sh) RX.rl hF hw (skip) (co_quiet (TT Sh))
    try simp only [hd1, hd2, hd3]
    co_take 12 (TT Sh) RX.rl hF hw (skip) (co_quiet (TT Sh))
    try simp only [hd1, hd2, hd3]
    co_take 13 (TT Sh) RX.rl hF hw (have hc := hw.c0) (refine rd_own hS hw.xlo (block_of_cell hc) (fun e he => ?_); have hm := mem_listed he; simp [go_sem, *] at hm; exact hm)
    try simp only [hd1, hd2, hd3]
    co_take 14 (TT Sh) RX.rl hF hw (skip) (co_still (TT Sh))
    try simp only [hd1, hd2, hd3]
    co_take 15 (TT Sh) RX.rl hF hw (have hc := hw.rg.cell hAx) (refine rd_own hS hw.rg.lo (block_of_cell hc) (fun e he => ?_); have hm := mem_listed he; simp [go_sem, *] at hm; exact hm)
    try simp only [hd1, hd2, hd3]
    co_take 16 (TT Sh) RX.rl hF hw (skip) (co_quiet (TT Sh))
    try simp only [hd1, hd2, hd3]
    co_take 17 (TT Sh) RX.rl hF hw (skip) (co_quiet (TT Sh))
    try simp only [hd1, hd2, hd3]
    co_take 18 (TT Sh) RX.rl hF hw (have hc := hw.c0) (refine rd_own hS hw.xlo (block_of_cell hc) (fun e he => ?_); have hm := mem_listed he; simp [go_sem, *] at hm; exact hm)
    try simp only [hd1, hd2, hd3]
    co_take 19 (TT Sh) RX.rl hF hw (skip) (co_still (TT Sh))
    try simp only [hd1, hd2, hd3]
    co_take 20 (TT Sh) RX.rl hF hw (have hc := cell_ext hw.rg.ext (hrow tt _ hut)) (refine rd_old hS hw.rg.ext (hrow tt _ hut) (by rfl) (fun e he => ?_); have hm := mem_listed he; simp [go_sem, *] at hm; exact hm)
    try simp only [hd1, hd2, hd3]
    co_take 21 (TT Sh) RX.rl hF hw (skip) (co_quiet (TT Sh))
    try simp only [hd1, hd2, hd3]
    co_take 22 (TT Sh) RX.rl hF hw (skip) (co_quiet (TT Sh))
    try simp only [hd1, hd2, hd3]
    co_take 23 (TT Sh) RX.rl hF hw (skip) (co_quiet (TT Sh))
    try simp only [hd1, hd2, hd3]
    co_take 24 (TT Sh) RX.rl hF hw (skip) (co_quiet (TT Sh))
    try simp only [hd1, hd2, hd3]
    co_take 25 (TT Sh) RX.rl hF hw (skip) (co_quiet (TT Sh))
    try simp only [hd1, hd2, hd3]
    co_take 26 (TT Sh) RX.rl hF hw (skip) (co_quiet (TT Sh))
    try simp only [hd1, hd2, hd3]
    co_take 27 (TT Sh) RX.rl hF hw (have hc := hw.c0) (refine rd_own hS hw.xlo (block_of_cell hc) (fun e he => ?_); have hm := mem_listed he; simp [go_sem, *] at hm; exact hm)
    try simp only [hd1, hd2, hd3]
    co_take 28 (TT Sh) RX.rl hF hw (skip) (co_still (TT Sh))
    try simp only [hd1, hd2, hd3]
    co_take 29 (TT Sh) RX.rl hF hw (have hc := cell_ext hw.rg.ext (hrow tt _ hut)) (refine rd_old hS hw.rg.ext (hrow tt _ hut) (by rfl) (fun e he => ?_); have hm := mem_listed he; simp [go_sem, *] at hm; exact hm)
    try simp only [hd1, hd2, hd3]
    co_take 30 (TT Sh) RX.rl hF hw (skip) (co_quiet (TT Sh))
    try simp only [hd1, hd2, hd3]
    co_take 31 (TT Sh) RX.rl hF hw (skip) (co_quiet (TT Sh))
    try simp only [hd1, hd2, hd3]
    co_take 32 (TT Sh) RX.rl hF hw (have hc := hw.c0) (refine rd_own hS hw.xlo (block_of_cell hc) (fun e he => ?_); have hm := mem_listed he; simp [go_sem, *] at hm; exact hm)
    try simp only [hd1, hd2, hd3]
    co_take 33 (TT Sh) RX.rl hF hw (skip) (co_still (TT Sh))
    try simp only [hd1, hd2, hd3]
    co_take 34 (TT Sh) RX.rl hF hw (have hc := hw.rg.cell hAx) (refine rd_own hS hw.rg.lo (block_of_cell hc) (fun e he => ?_); have hm := mem_listed he; simp [go_sem, *] at hm; exact hm)
    try simp only [hd1, hd2, hd3]
    co_take 35 (TT Sh) RX.rl hF hw (skip) (co_still (TT Sh))
    try simp only [hd1, hd2, hd3]
    co_take 36 (TT Sh) RX.rl hF hw (have hc := cell_ext hw.rg.ext (hsc x sx hsx)) (refine rd_old hS hw.rg.ext (hsc x sx hsx) (by rfl) (fun e he => ?_); have hm := mem_listed he; simp [go_sem, *] at hm; exact hm)
    try simp only [hd1, hd2, hd3]
    co_take 37 (TT Sh) RX.rl hF hw (skip) (co_quiet (TT Sh))
    try simp only [hd1, hd2, hd3]
    co_take 38 (TT Sh) RX.rl hF hw (have hc := hw.c1) (refine rd_own hS hw.xlo (block_of_cell hc) (fun e he => ?_); have hm := mem_listed he; simp [go_sem, *] at hm; exact hm)
    try simp only [hd1, hd2, hd3]
    co_take 39 (TT Sh) RX.rl hF hw (skip) (co_quiet (TT Sh))
    try simp only [hd1, hd2, hd3]
    co_take 40 (TT Sh) RX.rl hF hw (skip) (co_quiet (TT Sh))
    try simp only [hd1, hd2, hd3]
    co_done
    co_apply wpC_cond (TT Sh) (t := false)
    · simp [Act.eval]
    simp only [if_false, reduceIte, Bool.false_eq_true]
    co_apply wpC_skip (TT Sh)
    co_then
    have hwx : IntKind.i64.wrap ((x : Int) + 1) = ((x + 1 : Nat) : Int) := by rw [IntKind.wrap_i64]; omega
    co_reg (TT Sh)
    co_op RX.rl hF (co_quiet (TT Sh))
    co_op RX.rl hF (co_quiet (TT Sh))
    co_opw RX.rl hF (have hc := hF.c0) (refine rd_own hS hF.xlo (block_of_cell hc) (fun e he => ?_); have hm := mem_listed he; simp [go_sem, *] at hm; exact hm)
    clear hc
    co_opw RX.rl hF (skip) (co_still (TT Sh))
    co_opw RX.rl hF (have hc := hF.rg.cell hAx) (refine rd_own hS hF.rg.lo (block_of_cell hc) (fun e he => ?_); have hm := mem_listed he; simp [go_sem, *] at hm; exact hm)
    clear hc
    co_op RX.rl hF (co_quiet (TT Sh))
    co_opw RX.rl hF (skip) (co_still (TT Sh))
    co_opw RX.rl hF (have hc := hF.rg.cell hAx; have hz := hF.rg.unfrozen tt) (refine wr_own hS hF.rg.lo (block_of_cell hc) (fun e he => ?_); have hm := mem_listed he; simp [go_sem, storedEv, events_store_int, *] at hm; exact hm)
    clear hc hz
    try simp only [hwx]
    have hF2 := hF.rg.set (k := tt) (by omega) (x + 1)
    clear hF
    have hF := hF2
    clear hF2
    co_apply opsC_nil (TT Sh)
    co_then
    have hwj : IntKind.i64.wrap ((j : Int) + 1) = ((j + 1 : Nat) : Int) := by rw [IntKind.wrap_i64]; omega
    co_reg (TT Sh)
    co_op RG.rl hF (co_quiet (TT Sh))
    co_op RG.rl hF (co_quiet (TT Sh))
    co_apply opsC_nil (TT Sh)
    co_then
    refine ⟨⟨_, j + 1, A.set tt (x + 1), rfl, rfl, by first | rfl | simp [hae, hwj], by first | rfl | simp [hae, hwj], by first | rfl | simp [hae, hwj], by first | rfl | simp [hae, hwj], by first | rfl | simp [hae, hwj], by first | rfl | simp [hae, hwj], by first | rfl | simp [hae, hwj], by omega, by simp; omega, hrp', hF⟩, ?_⟩
    simp [slotN, hwj]
    omega
  · intro ht
    have hjl : j = E.length := by have : ¬ j < E.length := (by simpa using ht); omega
    co_apply wpC_exit (TT Sh)
    co_then
    have hab : A = B := by
      rw [List.drop_of_length_le (by omega)] at hrp
      simpa [repl] using hrp
    refine ⟨_, rfl, rfl, rfl, rfl, rfl, rfl, ?_⟩
    rw [← hab]
    exact hF
end
end Go.Proofs.Ytggfcdhkgldbfaa
