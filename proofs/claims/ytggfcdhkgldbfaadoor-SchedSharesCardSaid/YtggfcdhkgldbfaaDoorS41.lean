/-
  PARTS of a claim, merged by segs.py: CwSh4, CwRef, CwRef2, CwRef3, CwFin.
-/
import Derived.Test.YtggfcdhkgldbfaaDoorS40
import Derived.Test.YtggfcdhkgldbfaaDoorS34
import Derived.Test.YtggfcdhkgldbfaaDoorS37
namespace Go.Proofs.YtggfcdhkgldbfaaDoor
set_option linter.unusedSimpArgs false
set_option linter.unusedVariables false

/-! ### CwSh4 -/
section
set_option linter.unusedSimpArgs false
open Go Go.Conc Go.RowKit Go.ConcR.Gen Cw

noncomputable def simF (s : Sim) (l : List Nat) : Sim := l.foldl (fun s t => s.step t) s
theorem simF_snoc {s : Sim} {l : List Nat} {i t : Nat} (h : l[i]? = some t) : simF s (l.take (i + 1)) = (simF s (l.take i)).step t := by
  unfold simF
  rw [List.take_add_one, h]
  simp
theorem simB_F {s : Sim} (h : SimB s) : ∀ (l : List Nat), (∀ x ∈ l, x < 3) → SimB (simF s l)
  | [], _ => h
  | x :: l, hl => simB_F (h.step (hl x (by simp))) l fun y hy => hl y (by simp [hy])
/-- The state behind the first loops. -/
def Chain (s0 : Sim) : Nat → Sim → Prop
  | 0, s => s = s0
  | t + 1, s => ∃ s', Chain s0 t s' ∧ Drained t s' s
def leftW (pl t : Nat) (w : World) : Nat := match w.cell? ⟨pl, t, none⟩ with
  | some (.int _ n) => n.toNat
  | _ => 0
theorem leftW_of {W w : World} {pv pl pr pp pw t x : Nat} {s : Sim} {u : Value} (h : RS W pv pl pr pp pw s u w) (hx : s.left[t]? = some x) : leftW pl t w = x := by
  unfold leftW
  rw [h.q.cl hx]
  rfl
theorem step_left {s : Sim} {t x : Nat} (hx : s.left[t]? = some x) (h0 : x ≠ 0) : (s.step t).left[t]? = some (x - 1) := by
  have hl := (List.getElem?_eq_some_iff.1 hx).1
  have e : (s.comp t).left.getD t 0 = x := by rw [comp_left]; exact lgetD hx
  unfold Sim.step
  rw [if_neg (by rw [e]; exact h0)]
  unfold Sim.beg
  rw [e]
  simp only [comp_left]
  simp [hl]
theorem res_iff {s : Sim} {t x : Nat} (hx : s.left[t]? = some x) : (s.comp t).res t = !decide (x = 0) := by
  unfold Sim.res
  rw [comp_left, lgetD hx]
set_option maxRecDepth 100000 in
set_option maxHeartbeats 8000000 in
theorem c_shall {Sh : Loc → Prop} {W : World} {main : Bool} (hS : ShOk Sh W) {pv pl pr pp pw : Nat} :
    ∃ k, ∀ (t : Nat), t < 3 → ∀ (s : Sim) (u : Value) (w : World), s.left.length = 3 → s.read.length = 3 → s.pend.length = 3 → s.v < 98 → (∀ x ∈ s.left, x < 98) → (∀ x ∈ s.read, x < 98) → s.E.length < 1000 → RS W pv pl pr pp pw s u w →
      CallsC Tryd.prog main (Ext Vn) (HDq (Cx0 Sh)) 7 #[.int .i64 t, pb pp, pb pr, pb pv, pb pl, pb pw] k w (fun r w' => r = .bool ((s.comp t).res t) ∧ ∃ u', RS W pv pl pr pp pw (s.step t) u' w') := by
  obtain ⟨k0, h0⟩ := c_shstep (main := main) hS (pv := pv) (pl := pl) (pr := pr) (pp := pp) (pw := pw) (t := 0) (by decide)
  obtain ⟨k1, h1⟩ := c_shstep (main := main) hS (pv := pv) (pl := pl) (pr := pr) (pp := pp) (pw := pw) (t := 1) (by decide)
  obtain ⟨k2, h2⟩ := c_shstep (main := main) hS (pv := pv) (pl := pl) (pr := pr) (pp := pp) (pw := pw) (t := 2) (by decide)
  refine ⟨max k0 (max k1 k2), fun t ht s u w a1 a2 a3 a4 a5 a6 a7 hF => ?_⟩
  rcases (by omega : t = 0 ∨ t = 1 ∨ t = 2) with rfl | rfl | rfl
  · exact callsC_mono (h0 s u w a1 a2 a3 a4 a5 a6 a7 hF) (by omega)
  · exact callsC_mono (h1 s u w a1 a2 a3 a4 a5 a6 a7 hF) (by omega)
  · exact callsC_mono (h2 s u w a1 a2 a3 a4 a5 a6 a7 hF) (by omega)
set_option maxRecDepth 100000 in
set_option maxHeartbeats 8000000 in
theorem c_s10 {Sh : Loc → Prop} {W : World} {main : Bool} (hS : ShOk Sh W) {s5 s10 s11 : Value} {pv pl pr pp pw pc : Nat} {ap : Option Addr} {ps : List Nat} (hp : VRow W ap (ints ps)) (hpl : ps.length ≤ 4096) (hps : ∀ x ∈ ps, x < 3) {s0 : Sim} (hB0 : SimB s0) :
    ∃ k, ∀ (Qx : Exit → Act → World → Prop) (T : Array Value) (u0 : Value) (w : World), T.size = 94 → T[5]? = some s5 → T[9]? = some (.slice ap ps.length pc) → T[10]? = some s10 → T[11]? = some s11 → T[12]? = some (pb pv) → T[17]? = some (pb pw) → T[18]? = some (.func (.func 7) #[] #[pb pp, pb pr, pb pv, pb pl, pb pw]) → RS W pv pl pr pp pw s0 u0 w →
      (lf cdH10).wpC Tryd.prog main (Ext Vn) (HDq (Cx0 Sh)) 3 k (Exit.then (fun a' w' => ∃ T u, a' = ⟨T, []⟩ ∧ T.size = 94 ∧ T[5]? = some s5 ∧ T[10]? = some s10 ∧ T[11]? = some s11 ∧ T[12]? = some (pb pv) ∧ T[17]? = some (pb pw) ∧ T[18]? = some (.func (.func 7) #[] #[pb pp, pb pr, pb pv, pb pl, pb pw]) ∧ RS W pv pl pr pp pw (simF s0 ps) u w') Qx) ⟨T, []⟩ w := by
  obtain ⟨kc, hkc⟩ := c_shall (main := main) hS (pv := pv) (pl := pl) (pr := pr) (pp := pp) (pw := pw)
  rcases hp with hp | ⟨b, o, rfl, hcs⟩
  · have hL0 : ps.length ≤ 0 := by have : ps = [] := (by simpa [ints] using hp); rw [this]; simp
    clear hp
    co_apply Exists.intro
    intro Qx T u0 w hT h5 h9 h10 h11 h12 h17 h18 hF
    rw [arrG94 T hT]
    simp only [gv_of h5, gv_of h9, gv_of h10, gv_of h11, gv_of h12, gv_of h17, gv_of h18]
    simp only [cdH12, cdH11, cdH10, cdH9, cdH8, cdH7, cdH6, cdH5, cdH4, cdH3, cdH2, cdH1, bodyShr, rt, lf, Tryd.f3, Option.getD_some]
    co_apply wpC_seq (TT Sh)
    co_reg (TT Sh)
    co_op RS.rl hF (co_quiet (TT Sh))
    co_op RS.rl hF (co_quiet (TT Sh))
    co_op RS.rl hF (co_quiet (TT Sh))
    co_apply opsC_nil (TT Sh)
    co_then
    co_apply wpC_block (TT Sh)
    co_apply wpC_loop (TT Sh) (fun a' w' => ∃ (T : Array Value) (i : Nat) (u : Value), a' = ⟨T, []⟩ ∧ T.size = 94 ∧ T[5]? = some (s5) ∧ T[10]? = some (s10) ∧ T[11]? = some (s11) ∧ T[12]? = some (pb pv) ∧ T[17]? = some (pb pw) ∧ T[18]? = some (.func (.func 7) #[] #[pb pp, pb pr, pb pv, pb pl, pb pw]) ∧ T[62]? = some (.slice ap ps.length pc) ∧ T[63]? = some (.int .i64 ps.length) ∧ T[64]? = some (.int .i64 i) ∧ i ≤ ps.length ∧ RS W pv pl pr pp pw (simF s0 (ps.take i)) u w') (fun a' _ => ps.length - slotN a' 64) _ (ps.length)
    · exact ⟨_, 0, u0, rfl, rfl, rfl, rfl, rfl, rfl, rfl, rfl, rfl, rfl, rfl, by omega, hF⟩
    · simp [slotN]
    clear hF w
    rintro a' w ⟨T, i, u, rfl, hT, h5, h10, h11, h12, h17, h18, h62, h63, h64, hi, hF⟩
    rw [arrG94 T hT]
    simp only [gv_of h5, gv_of h10, gv_of h11, gv_of h12, gv_of h17, gv_of h18, gv_of h62, gv_of h63, gv_of h64]
    co_apply wpC_seq (TT Sh)
    co_reg (TT Sh)
    co_op RS.rl hF (co_quiet (TT Sh))
    co_apply opsC_nil (TT Sh)
    co_then
    co_apply wpC_seq (TT Sh) (n₂ := 0)
    co_split (TT Sh) (decide ((i : Int) < (ps.length : Int)))
    · intro ht
      exact wpC_absurd (by have : i < ps.length := (by simpa using ht); omega)
    · intro ht
      have hil : ¬ i < ps.length := by simpa using ht
      co_apply wpC_exit (TT Sh)
      co_then
      rw [List.take_of_length_le (by omega)] at hF
      exact ⟨_, u, rfl, rfl, rfl, rfl, rfl, rfl, rfl, rfl, hF⟩
  · co_apply Exists.intro
    intro Qx T u0 w hT h5 h9 h10 h11 h12 h17 h18 hF
    rw [arrG94 T hT]
    simp only [gv_of h5, gv_of h9, gv_of h10, gv_of h11, gv_of h12, gv_of h17, gv_of h18]
    simp only [cdH12, cdH11, cdH10, cdH9, cdH8, cdH7, cdH6, cdH5, cdH4, cdH3, cdH2, cdH1, bodyShr, rt, lf, Tryd.f3, Option.getD_some]
    co_apply wpC_seq (TT Sh)
    co_reg (TT Sh)
    co_op RS.rl hF (co_quiet (TT Sh))
    co_op RS.rl hF (co_quiet (TT Sh))
    co_op RS.rl hF (co_quiet (TT Sh))
    co_apply opsC_nil (TT Sh)
    co_then
    co_apply wpC_block (TT Sh)
    co_apply wpC_loop (TT Sh) (fun a' w' => ∃ (T : Array Value) (i : Nat) (u : Value), a' = ⟨T, []⟩ ∧ T.size = 94 ∧ T[5]? = some (s5) ∧ T[10]? = some (s10) ∧ T[11]? = some (s11) ∧ T[12]? = some (pb pv) ∧ T[17]? = some (pb pw) ∧ T[18]? = some (.func (.func 7) #[] #[pb pp, pb pr, pb pv, pb pl, pb pw]) ∧ T[62]? = some (.slice (some ⟨b, o, none⟩) ps.length pc) ∧ T[63]? = some (.int .i64 ps.length) ∧ T[64]? = some (.int .i64 i) ∧ i ≤ ps.length ∧ RS W pv pl pr pp pw (simF s0 (ps.take i)) u w') (fun a' _ => ps.length - slotN a' 64) _ (ps.length)
    · exact ⟨_, 0, u0, rfl, rfl, rfl, rfl, rfl, rfl, rfl, rfl, rfl, rfl, rfl, by omega, hF⟩
    · simp [slotN]
    clear hF w
    rintro a' w ⟨T, i, u, rfl, hT, h5, h10, h11, h12, h17, h18, h62, h63, h64, hi, hF⟩
    rw [arrG94 T hT]
    simp only [gv_of h5, gv_of h10, gv_of h11, gv_of h12, gv_of h17, gv_of h18, gv_of h62, gv_of h63, gv_of h64]
    co_apply wpC_seq (TT Sh)
    co_reg (TT Sh)
    co_op RS.rl hF (co_quiet (TT Sh))
    co_apply opsC_nil (TT Sh)
    co_then
    co_apply wpC_seq (TT Sh)
    co_split (TT Sh) (decide ((i : Int) < (ps.length : Int)))
    · intro ht
      have hil : i < ps.length := by simpa using ht
      co_apply wpC_skip (TT Sh)
      co_then
      obtain ⟨x, hxi⟩ : ∃ x, ps[i]? = some x := ⟨_, List.getElem?_eq_getElem hil⟩
      have hx3 := hps x (List.mem_of_getElem? hxi)
      have hxc := hcs i (.int .i64 (x : Nat)) (by simp [ints, hxi])
      have hB := simB_F hB0 (ps.take i) (fun y hy => hps y (List.mem_of_mem_take hy))
      obtain ⟨k0, hk⟩ : ∃ k0, k0 = kc ∧ ∀ (s : Sim) (u : Value) (w : World), s.left.length = 3 → s.read.length = 3 → s.pend.length = 3 → s.v < 98 → (∀ x ∈ s.left, x < 98) → (∀ x ∈ s.read, x < 98) → s.E.length < 1000 → RS W pv pl pr pp pw s u w → CallsC Tryd.prog main (Ext Vn) (HDq (Cx0 Sh)) 7 #[.int .i64 x, pb pp, pb pr, pb pv, pb pl, pb pw] kc w (fun r w' => r = .bool ((s.comp x).res x) ∧ ∃ u', RS W pv pl pr pp pw (s.step x) u' w') := ⟨kc, rfl, hkc x hx3⟩
      replace hk := hk.2
      co_apply wpC_seq (TT Sh)
      co_apply wpC_block (TT Sh)
      co_apply wpC_seq (TT Sh)
      co_reg (TT Sh)
      co_opw RS.rl hF (skip) (co_still (TT Sh))
      co_opw RS.rl hF (have hc := cell_ext hF.q.ext hxc) (refine rd_old hS hF.q.ext hxc (by rfl) (fun e he => ?_); have hm := mem_listed he; simp [go_sem, *] at hm; exact hm)
      clear hc
      co_op RS.rl hF (co_quiet (TT Sh))
      co_apply opsC_nil (TT Sh)
      co_then
      co_reg (TT Sh)
      co_op RS.rl hF (co_quiet (TT Sh))
      co_op RS.rl hF (co_quiet (TT Sh))
      co_apply opsC_callv (TT Sh) (vo := .tmp 68) (f := 7) (cap := #[pb pp, pb pr, pb pv, pb pl, pb pw]) (args := #[.tmp 69]) (ats := #[3]) (by rfl) (by rfl) (by rfl) (by rfl) (by simp only [List.map_toArray, List.map_cons, List.map_nil, Act.eval]; exact hk _ _ _ hB.ll hB.lr hB.lp hB.v98 hB.left98 hB.read98 hB.e98 hF)
      rintro v w' ⟨rfl, u', hF⟩
      try walk_nrm
      co_apply opsC_nil (TT Sh)
      co_then
      co_reg (TT Sh)
      co_op RS.rl hF (co_quiet (TT Sh))
      co_op RS.rl hF (co_quiet (TT Sh))
      co_apply opsC_nil (TT Sh)
      co_then
      have hwr : IntKind.i64.wrap ((i : Int) + 1) = ((i + 1 : Nat) : Int) := by rw [IntKind.wrap_i64]; omega
      refine ⟨⟨_, i + 1, u', rfl, rfl, rfl, rfl, rfl, rfl, rfl, rfl, rfl, rfl, by simp [hwr], by omega, ?_⟩, ?_⟩
      · rw [simF_snoc hxi]
        exact hF
      · simp [slotN, hwr]; omega
    · intro ht
      have hil : ¬ i < ps.length := by simpa using ht
      co_apply wpC_exit (TT Sh)
      co_then
      rw [List.take_of_length_le (by omega)] at hF
      exact ⟨_, u, rfl, rfl, rfl, rfl, rfl, rfl, rfl, rfl, hF⟩
theorem chain_B {s0 : Sim} (h : SimB s0) : ∀ (t : Nat) (s : Sim), t ≤ 3 → Chain s0 t s → SimB s
  | 0, s, _, hc => by rw [show s = s0 from hc]; exact h
  | t + 1, s, ht, hc => by
    obtain ⟨s', h1, j, _, rfl⟩ := hc
    exact SimB.itr (by omega) (j + 1) (chain_B h t s' (by omega) h1)
set_option maxRecDepth 100000 in
set_option maxHeartbeats 8000000 in
theorem c_s11 {Sh : Loc → Prop} {W : World} {main : Bool} (hS : ShOk Sh W) {s5 s10 s11 : Value} {pv pl pr pp pw : Nat} {s0 : Sim} (hB0 : SimB s0) :
    ∃ k, ∀ (Qx : Exit → Act → World → Prop) (T : Array Value) (u0 : Value) (w : World), T.size = 94 → T[5]? = some s5 → T[10]? = some s10 → T[11]? = some s11 → T[12]? = some (pb pv) → T[17]? = some (pb pw) → T[18]? = some (.func (.func 7) #[] #[pb pp, pb pr, pb pv, pb pl, pb pw]) → RS W pv pl pr pp pw s0 u0 w →
      (lf cdH11).wpC Tryd.prog main (Ext Vn) (HDq (Cx0 Sh)) 3 k (Exit.then (fun a' w' => ∃ T u, a' = ⟨T, []⟩ ∧ T.size = 94 ∧ T[5]? = some s5 ∧ T[10]? = some s10 ∧ T[11]? = some s11 ∧ T[12]? = some (pb pv) ∧ T[17]? = some (pb pw) ∧ ∃ s, Chain s0 3 s ∧ RS W pv pl pr pp pw s u w') Qx) ⟨T, []⟩ w := by
  obtain ⟨kc, hkc⟩ := c_shall (main := main) hS (pv := pv) (pl := pl) (pr := pr) (pp := pp) (pw := pw)
  co_apply Exists.intro
  intro Qx T u0 w hT h5 h10 h11 h12 h17 h18 hF
  rw [arrG94 T hT]
  simp only [gv_of h5, gv_of h10, gv_of h11, gv_of h12, gv_of h17, gv_of h18]
  simp only [cdH12, cdH11, cdH10, cdH9, cdH8, cdH7, cdH6, cdH5, cdH4, cdH3, cdH2, cdH1, bodyShr, rt, lf, Tryd.f3, Option.getD_some]
  co_apply wpC_seq (TT Sh)
  co_reg (TT Sh)
  co_op RS.rl hF (co_quiet (TT Sh))
  co_apply opsC_nil (TT Sh)
  co_then
  co_apply wpC_block (TT Sh)
  co_apply wpC_loop (TT Sh) (fun a' w' => ∃ (T : Array Value) (i : Nat) (s : Sim) (u : Value), a' = ⟨T, []⟩ ∧ T.size = 94 ∧ T[5]? = some (s5) ∧ T[10]? = some (s10) ∧ T[11]? = some (s11) ∧ T[12]? = some (pb pv) ∧ T[17]? = some (pb pw) ∧ T[18]? = some (.func (.func 7) #[] #[pb pp, pb pr, pb pv, pb pl, pb pw]) ∧ T[72]? = some (.int .i64 i) ∧ i ≤ 3 ∧ Chain s0 i s ∧ RS W pv pl pr pp pw s u w') (fun a' _ => 3 - slotN a' 72) _ (3)
  · exact ⟨_, 0, s0, u0, rfl, rfl, rfl, rfl, rfl, rfl, rfl, rfl, rfl, by omega, rfl, hF⟩
  · simp [slotN]
  clear hF w
  rintro a' w ⟨T, i, s, u, rfl, hT, h5, h10, h11, h12, h17, h18, h72, hi, hch, hF⟩
  rw [arrG94 T hT]
  simp only [gv_of h5, gv_of h10, gv_of h11, gv_of h12, gv_of h17, gv_of h18, gv_of h72]
  co_apply wpC_seq (TT Sh)
  co_reg (TT Sh)
  co_op RS.rl hF (co_quiet (TT Sh))
  co_apply opsC_nil (TT Sh)
  co_then
  co_apply wpC_seq (TT Sh)
  co_split (TT Sh) (decide ((i : Int) < 3))
  · intro ht
    have hil : i < 3 := by have := of_decide_eq_true ht; omega
    co_apply wpC_skip (TT Sh)
    co_then
    have hBs := chain_B hB0 i s (by omega) hch
    co_apply wpC_seq (TT Sh)
    co_apply wpC_block (TT Sh)
    co_apply wpC_seq (TT Sh)
    co_reg (TT Sh)
    co_op RS.rl hF (co_quiet (TT Sh))
    co_op RS.rl hF (co_quiet (TT Sh))
    co_apply opsC_nil (TT Sh)
    co_then
    co_apply wpC_block (TT Sh)
    co_apply wpC_loop (TT Sh) (fun a' w' => ∃ (T : Array Value) (j : Nat) (u : Value), a' = ⟨T, []⟩ ∧ T.size = 94 ∧ T[5]? = some (s5) ∧ T[10]? = some (s10) ∧ T[11]? = some (s11) ∧ T[12]? = some (pb pv) ∧ T[17]? = some (pb pw) ∧ T[18]? = some (.func (.func 7) #[] #[pb pp, pb pr, pb pv, pb pl, pb pw]) ∧ T[72]? = some (.int .i64 i) ∧ T[21]? = some (.int .i64 i) ∧ RS W pv pl pr pp pw (itr (fun s => s.step i) j s) u w') (fun _ w' => leftW pl i w') _ (98)
    · exact ⟨_, 0, u, rfl, rfl, rfl, rfl, rfl, rfl, rfl, rfl, rfl, rfl, hF⟩
    · obtain ⟨x, hx⟩ : ∃ x, s.left[i]? = some x := ⟨_, List.getElem?_eq_getElem (by rw [hBs.ll]; exact hil)⟩
      rw [leftW_of hF hx]
      have := hBs.left98 x (List.mem_of_getElem? hx)
      omega
    clear hF w
    rintro a' w ⟨T, j, u, rfl, hT, h5, h10, h11, h12, h17, h18, h72, h21, hF⟩
    rw [arrG94 T hT]
    simp only [gv_of h5, gv_of h10, gv_of h11, gv_of h12, gv_of h17, gv_of h18, gv_of h72, gv_of h21]
    have hB := SimB.itr hil j hBs
    obtain ⟨x, hxl⟩ : ∃ x, (itr (fun s => s.step i) j s).left[i]? = some x := ⟨_, List.getElem?_eq_getElem (by rw [hB.ll]; exact hil)⟩
    have hlw := leftW_of hF hxl
    have hk := hkc i hil
    co_apply wpC_seq (TT Sh)
    co_apply wpC_seq (TT Sh)
    co_reg (TT Sh)
    co_op RS.rl hF (co_quiet (TT Sh))
    co_op RS.rl hF (co_quiet (TT Sh))
    co_apply opsC_callv (TT Sh) (vo := .tmp 75) (f := 7) (cap := #[pb pp, pb pr, pb pv, pb pl, pb pw]) (args := #[.tmp 76]) (ats := #[3]) (by rfl) (by rfl) (by rfl) (by rfl) (by simp only [List.map_toArray, List.map_cons, List.map_nil, Act.eval]; exact hk _ _ _ hB.ll hB.lr hB.lp hB.v98 hB.left98 hB.read98 hB.e98 hF)
    rintro v w' ⟨rfl, u', hF⟩
    try walk_nrm
    co_apply opsC_nil (TT Sh)
    co_then
    co_split (TT Sh) ((itr (fun s => s.step i) j s).comp i |>.res i)
    · intro ht
      co_apply wpC_skip (TT Sh)
      co_then
      try co_then
      co_apply wpC_block (TT Sh)
      co_apply wpC_skip (TT Sh)
      co_then
      have hx0 : x ≠ 0 := by rw [res_iff hxl] at ht; simpa using ht
      refine ⟨⟨_, j + 1, u', rfl, rfl, rfl, rfl, rfl, rfl, rfl, rfl, rfl, rfl, ?_⟩, ?_⟩
      · rw [itr_last]
        exact hF
      · rw [leftW_of hF (step_left hxl hx0), hlw]
        omega
    · intro ht
      have hx0 : x = 0 := by rw [res_iff hxl] at ht; simpa using ht
      co_apply wpC_exit (TT Sh)
      co_then
      have hwr : IntKind.i64.wrap ((i : Int) + 1) = ((i + 1 : Nat) : Int) := by rw [IntKind.wrap_i64]; omega
      co_reg (TT Sh)
      co_op RS.rl hF (co_quiet (TT Sh))
      co_op RS.rl hF (co_quiet (TT Sh))
      co_apply opsC_nil (TT Sh)
      co_then
      refine ⟨⟨_, i + 1, _, u', rfl, rfl, rfl, rfl, rfl, rfl, rfl, rfl, by simp [hwr], by omega, ⟨_, hch, j, by rw [res_iff hxl, hx0]; rfl, rfl⟩, by rw [itr_last]; exact hF⟩, ?_⟩
      simp [slotN, hwr]; omega
  · intro ht
    have hil : i = 3 := by have := of_decide_eq_false ht; omega
    co_apply wpC_exit (TT Sh)
    co_then
    rw [hil] at hch
    exact ⟨_, u, rfl, rfl, rfl, rfl, rfl, rfl, rfl, s, hch, hF⟩
end

/-! ### CwRef -/
section
set_option linter.unusedSimpArgs false
open Go Go.Conc Go.RowKit Go.ConcR.Gen Cw

/-- .. but for the events. -/
structure RA (W : World) (ab : Nat) (A : List Nat) (w : World) : Prop where
  ext : Ext Vn W w
  lo : W.heap.size ≤ ab
  at_ : w.heap[ab]? = some (.cells (ints A).toArray 3 (0, 0))
theorem RF.ra {W w : World} {ab : Nat} {A : List Nat} {u : Value} {E : List (Int × ByteArray)} (h : RF W ab A u E w) : RA W ab A w := ⟨h.ext, h.lo, h.at_⟩
theorem RA.rl {W w w' : World} {ab : Nat} {A : List Nat} (h : RA W ab A w) (r : Ext Vn w w') : RA W ab A w' :=
  ⟨h.ext.trans r, h.lo, (r.same _ (Array.getElem?_eq_some_iff.1 h.at_).1 id).trans h.at_⟩
theorem RA.cell {W w : World} {ab : Nat} {A : List Nat} (h : RA W ab A w) {k x : Nat} (hk : A[k]? = some x) : w.cell? ⟨ab, k, none⟩ = some (.int .i64 x) := by
  simp [World.cell?, h.at_, ints, hk]
def IsSt (L : List (List ByteArray)) (s0 : List Nat × List (Int × ByteArray)) (l : List Nat) (A : List Nat) (E : List (Int × ByteArray)) : Prop := l.foldl (refStep L) s0 = (A, E)
/-- What the document's Run is given. -/
structure Rin (W : World) (lp lo : Nat) (us : List Value) (L : List (List ByteArray)) : Prop where
  row : ∀ (k : Nat) (u : Value), us[k]? = some u → W.cell? ⟨lp, lo + k, none⟩ = some u
  sl : ∀ k, k < us.length → ∃ a c, us[k]? = some (.slice a (Sk L k).length c) ∧ Nts a (Sk L k) W
  bd : ∀ k, (Sk L k).length ≤ 1000000
theorem refStep_some {L : List (List ByteArray)} {A : List Nat} {E : List (Int × ByteArray)} {tt x : Nat} {sx : ByteArray} (hA : A[tt]? = some x) (hs : (Sk L tt)[x]? = some sx) : refStep L (A, E) tt = (A.set tt (x + 1), E ++ [((tt : Int), sx)]) := by
  simp [refStep, List.getD_eq_getElem?_getD, hA, hs]
theorem refStep_none {L : List (List ByteArray)} {A : List Nat} {E : List (Int × ByteArray)} {tt x : Nat} (hA : A[tt]? = some x) (hs : (Sk L tt).length ≤ x) : refStep L (A, E) tt = (A.set tt (x + 1), E) := by
  simp [refStep, List.getD_eq_getElem?_getD, hA, List.getElem?_eq_none hs]
theorem isSt_snoc {L : List (List ByteArray)} {s0 : List Nat × List (Int × ByteArray)} {l : List Nat} {A A' : List Nat} {E E' : List (Int × ByteArray)} {tt : Nat} (h : IsSt L s0 l A E) (hs : refStep L (A, E) tt = (A', E')) : IsSt L s0 (l ++ [tt]) A' E' := by
  unfold IsSt at h ⊢
  rw [List.foldl_append, h]
  exact hs
theorem take_snoc {α : Type _} {l : List α} {i : Nat} {x : α} (h : l[i]? = some x) : l.take (i + 1) = l.take i ++ [x] := by
  rw [List.take_add_one, h]; rfl
theorem set_bd {A : List Nat} {k y b : Nat} (h : ∀ x ∈ A, x ≤ b) (hy : y ≤ b + 1) : ∀ x ∈ A.set k y, x ≤ b + 1 := by
  intro x hx
  rcases List.mem_or_eq_of_mem_set hx with h1 | h1
  · have := h x h1; omega
  · omega
theorem refStep_len (L : List (List ByteArray)) (s : List Nat × List (Int × ByteArray)) (t : Nat) : (refStep L s t).1.length = s.1.length := by simp [refStep]
end

/-! ### CwRef2 -/
section
set_option linter.unusedSimpArgs false
open Go Go.Conc Go.RowKit Go.ConcR.Gen Cw

def cellN (w : World) (b k : Nat) : Nat := match w.cell? ⟨b, k, none⟩ with
  | some (.int _ i) => i.toNat
  | _ => 0
def IsDr (L : List (List ByteArray)) (s1 : List Nat × List (Int × ByteArray)) (i : Nat) (A : List Nat) (E : List (Int × ByteArray)) : Prop := (List.range i).foldl (refDrain L) s1 = (A, E)
def IsDt (L : List (List ByteArray)) (A : List Nat) (E : List (Int × ByteArray)) (i : Nat) (A' : List Nat) (E' : List (Int × ByteArray)) : Prop := refDrain L (A, E) i = (A', E')
theorem isDt_step {L : List (List ByteArray)} {A A' : List Nat} {E E' : List (Int × ByteArray)} {tt x : Nat} {sx : ByteArray} (hl : tt < A.length) (hA : A[tt]? = some x) (hs : (Sk L tt)[x]? = some sx) (h : IsDt L A E tt A' E') : IsDt L (A.set tt (x + 1)) (E ++ [((tt : Int), sx)]) tt A' E' := by
  unfold IsDt refDrain at h ⊢
  have hlt := (List.getElem?_eq_some_iff.1 hs).1
  have e1 : (A.getD tt 0) = x := by simp [List.getD_eq_getElem?_getD, hA]
  have e2 : ((A.set tt (x + 1)).getD tt 0) = x + 1 := by simp [List.getD_eq_getElem?_getD, hl]
  simp only at h ⊢
  rw [e1, show (Sk L tt).length - x = ((Sk L tt).length - (x + 1)) + 1 by omega, itr, refStep_some hA hs] at h
  rw [e2]
  exact h
theorem isDt_end {L : List (List ByteArray)} {A A' : List Nat} {E E' : List (Int × ByteArray)} {tt x : Nat} (hA : A[tt]? = some x) (hs : (Sk L tt).length ≤ x) (h : IsDt L A E tt A' E') : A' = A ∧ E' = E := by
  unfold IsDt refDrain at h
  have e1 : (A.getD tt 0) = x := by simp [List.getD_eq_getElem?_getD, hA]
  simp only at h
  rw [e1, show (Sk L tt).length - x = 0 by omega, itr] at h
  cases h
  exact ⟨rfl, rfl⟩
theorem isDr_snoc {L : List (List ByteArray)} {s1 : List Nat × List (Int × ByteArray)} {i : Nat} {A A' : List Nat} {E E' : List (Int × ByteArray)} (h : IsDr L s1 i A E) (hd : IsDt L A E i A' E') : IsDr L s1 (i + 1) A' E' := by
  unfold IsDr IsDt at *
  rw [List.range_succ, List.foldl_append, h]
  exact hd
theorem set_le {A : List Nat} {k y b : Nat} (h : ∀ x ∈ A, x ≤ b) (hy : y ≤ b) : ∀ x ∈ A.set k y, x ≤ b := by
  intro x hx
  rcases List.mem_or_eq_of_mem_set hx with h1 | h1
  · exact h x h1
  · omega
theorem cellN_of {w : World} {b k x : Nat} (h : w.cell? ⟨b, k, none⟩ = some (.int .i64 x)) : cellN w b k = x := by simp [cellN, h]
end

/-! ### CwRef3 -/
section
set_option linter.unusedSimpArgs false
open Go Go.Conc Go.RowKit Go.ConcR.Gen Cw

theorem mkI (n : Nat) (hn : n ≤ 64) (w : World) (es : Array Event) : (Instr.makeSlice 29 (.int .i64 n) (.int .i64 n)).run Tryd.prog w = .ok (.slice (some ⟨w.heap.size, 0, none⟩) n n) (w.alloc (.cells (ints (List.replicate n 0)).toArray 3 (0, 0))) ∧ (Instr.makeSlice 29 (.int .i64 n) (.int .i64 n)).events Tryd.prog w es = es := by
  obtain ⟨i, hi, h0, h1, h2⟩ := intInfo
  refine ⟨?_, events_make w _ _ i _ Tryd.underlying29 hi h0 .i64 .i64 n n (by omega) (by omega) (by rw [h2]; omega) (by omega) (by rw [h2]; simp; omega) es⟩
  have := run_make (P := Tryd.prog) w 29 3 i _ Tryd.underlying29 hi h0 .i64 .i64 n n (by omega) (by omega) (by rw [h2]; omega) (by omega)
  rw [h1] at this
  have e : (Value.int .i64 0).cells = #[.int .i64 0] := rfl
  rw [e] at this
  have e2 : madeCells #[.int .i64 0] n = (ints (List.replicate n 0)).toArray := by
    apply Array.ext
    · simp [madeCells, ints]
    · intro k h1 h2
      simp [madeCells, ints, Nat.mod_one]
  rw [← e2]
  simpa using this
/- EMPTY -/
end

/-! ### CwFin -/
section
set_option linter.unusedSimpArgs false
open Go Go.Conc Go.RowKit Go.ConcR.Gen Cw

/-! ### rows of memory -/
theorem cell_kp {W w : World} (h : Keep W w) {a : Addr} {v : Value} (hc : W.cell? a = some v) : w.cell? a = some v := by
  rw [cell_of_block (h.2 _ (block_of_cell hc))]; exact hc
theorem vrow_kp {W w : World} (h : Keep W w) {a : Option Addr} {us : List Value} (x : VRow W a us) : VRow w a us := by
  rcases x with x | ⟨b, o, ha, hc⟩
  · exact .inl x
  · exact .inr ⟨b, o, ha, fun k u hk => cell_kp h (hc k u hk)⟩
theorem evrow_kp {W w : World} (h : Keep W w) {a : Option Addr} {E : List (Int × ByteArray)} (x : EvRow W a E) : EvRow w a E := by
  rcases x with x | ⟨b, o, ha, hc⟩
  · exact .inl x
  · exact .inr ⟨b, o, ha, fun k x hk => ⟨cell_kp h (hc k x hk).1, cell_kp h (hc k x hk).2⟩⟩
theorem nts_kp {W w : World} (h : Keep W w) {a : Option Addr} {S : List ByteArray} (x : Nts a S W) : Nts a S w := by
  rcases x with x | ⟨b, o, ha, hc⟩
  · exact .inl x
  · exact .inr ⟨b, o, ha, fun k x hk => cell_kp h (hc k x hk)⟩
theorem strrows_kp {W w : World} (h : Keep W w) {v : Value} {L : List (List ByteArray)} (x : StrRows W v L) : StrRows w v L := by
  obtain ⟨a, cap, rfl, x⟩ := x
  refine ⟨a, cap, rfl, ?_⟩
  rcases x with x | ⟨b, o, ha, hc⟩
  · exact .inl x
  · refine .inr ⟨b, o, ha, fun k S hk => ?_⟩
    obtain ⟨u, hu, a', c', rfl, hn⟩ := hc k S hk
    exact ⟨_, cell_kp h hu, a', c', rfl, nts_kp h hn⟩
/-- The rows' headers, as a list. -/
theorem rows_us {W : World} {v : Value} {L : List (List ByteArray)} (x : StrRows W v L) : ∃ a cap us, v = .slice a L.length cap ∧ us.length = L.length ∧ VRow W a us ∧ (∀ u ∈ us, IsSl u) ∧ ∀ k, ∃ a c, slK us k = .slice a (Sk L k).length c ∧ Nts a (Sk L k) W := by
  obtain ⟨a, cap, rfl, x⟩ := x
  rcases x with rfl | ⟨b, o, rfl, hc⟩
  · exact ⟨a, cap, [], rfl, rfl, .inl rfl, fun u hu => by simp at hu, fun k => ⟨none, 0, by simp [slK, Sk], .inl (by simp [Sk])⟩⟩
  · have key : ∀ k, k < L.length → ∃ S, L[k]? = some S ∧ ∃ a c, (W.cell? ⟨b, o + k, none⟩) = some (.slice a S.length c) ∧ Nts a S W := fun k hk => by
      obtain ⟨u, hu, a', c', rfl, hn⟩ := hc k _ (List.getElem?_eq_getElem hk)
      exact ⟨_, List.getElem?_eq_getElem hk, a', c', hu, hn⟩
    refine ⟨some ⟨b, o, none⟩, cap, (List.range L.length).map fun k => (W.cell? ⟨b, o + k, none⟩).getD undef, rfl, by simp, .inr ⟨b, o, rfl, fun k u hk => ?_⟩, fun u hu => ?_, fun k => ?_⟩
    · rw [List.getElem?_map] at hk
      obtain ⟨j, hj, rfl⟩ := Option.map_eq_some_iff.1 hk
      obtain ⟨hlt, rfl⟩ := List.getElem?_eq_some_iff.1 hj
      simp only [List.length_range] at hlt
      simp only [List.getElem_range]
      obtain ⟨S, _, a', c', hu, _⟩ := key k hlt
      rw [hu]; rfl
    · obtain ⟨j, hj, rfl⟩ := List.mem_map.1 hu
      obtain ⟨S, _, a', c', hu, _⟩ := key j (List.mem_range.1 hj)
      rw [hu]; exact ⟨_, _, _, rfl⟩
    · by_cases hk : k < L.length
      · obtain ⟨S, hS, a', c', hu, hn⟩ := key k hk
        have hS' := (List.getElem?_eq_some_iff.1 hS).2
        refine ⟨a', c', ?_, ?_⟩
        · simp [slK, Sk, hk, hu, hS']
        · simpa [Sk, hS] using hn
      · exact ⟨none, 0, by simp [slK, Sk, hk], .inl (by simp [Sk, hk])⟩
theorem rin_of {W : World} {lp lo : Nat} {us : List Value} {L : List (List ByteArray)} (h : VRow W (some ⟨lp, lo, none⟩) us) (hk : ∀ k, ∃ a c, slK us k = .slice a (Sk L k).length c ∧ Nts a (Sk L k) W) (hb : ∀ k, (Sk L k).length ≤ 1000000) : Rin W lp lo us L := by
  refine ⟨fun k u hu => ?_, fun k hlt => ?_, hb⟩
  · rcases h with rfl | ⟨b, o, e, hc⟩
    · simp at hu
    · cases e; exact hc k u hu
  · obtain ⟨a, c, e, hn⟩ := hk k
    refine ⟨a, c, ?_, hn⟩
    rw [← e]
    simp [slK, hlt]
theorem refRun_nil {L : List (List ByteArray)} {ps : List Nat} (hL : L = []) (hp : ∀ x ∈ ps, x < L.length) : refRun L ps = [] := by
  subst hL
  have : ps = [] := List.eq_nil_iff_forall_not_mem.2 fun x hx => by have := hp x hx; simp at this
  subst this
  simp [refRun]
/-! ### the frame -/
theorem Held.anchor [Ref] {P : Program} {X : Cx} {V : Nat → Prop} {h dh n : Nat} {Bp : (Nat → By) → (Nat → Nat) → Prop} {g₀ : Goroutine} {A : World → Prop} {m : Machine} {T : Trace} (H : Held P X V h dh n Bp (fun g w => g = g₀ ∧ A w) m T) : ∃ W, A W ∧ Held P X V h dh n Bp (fun g w => g = g₀ ∧ Ext V W w) m T := by
  obtain ⟨gs, w, sl, q, Rd, B, cn, g, rfl, hn, hg, ⟨rfl, hA⟩, hB, C⟩ := H
  exact ⟨w, hA, gs, w, sl, q, Rd, B, cn, _, rfl, hn, hg, ⟨rfl, Ext.refl V w⟩, hB, C⟩
/-- The call's beginning. -/
theorem held_init [R0 : Ref] (P : Program) (g : Goroutine) : Held P (Cx0 fun _ => False) Vn 0 0 1 Gone (fun g' w => g' = g ∧ Ext Vn R0.w w) (solo g R0.w) #[] := by
  rw [solo_eq_crowd]
  exact ⟨_, _, _, _, _, _, _, g, rfl, rfl, rfl, ⟨rfl, Ext.refl Vn _⟩, fun _ _ => rfl, crew_init P g R0.w, rfl, rfl⟩
/-- What a call leaves. -/
structure Leaves (W w : World) : Prop where
  keep : Keep W w
  os : w.os = W.os
  output : w.output = W.output
/-- The call's end. -/
theorem Held.finish [R0 : Ref] {P : Program} {K : Goroutine → World → Prop} {Post : Value → World → Prop} {m : Machine} {T : Trace} (H : Lands P m T (fun m' T' => ∃ Sh γ, Held P (Cx0 Sh) Vn 0 0 γ Gone K m' T'))
    (hK : ∀ Sh g w, K g w → Outs w → ∀ d, AtFin P (Cx0 Sh) Post g (w.at d)) :
    ∃ M last o w' t', runNT P (M + 1) m T = (.ended o w', t') ∧ runN P M m = .next last ∧ step P last = .ended o w' ∧ Go.Conc.Good P Post last o w' t' := by
  obtain ⟨N, m', T', hr, Sh, γ, gs, w, sl, q, Rd, B, cn, g, rfl, hn, hg, hk, hB, C⟩ := H
  obtain ⟨N₂, last, o, w', t', h1, h2, h3, h4⟩ := C.toCrew.ends hB (D := HDq (Cx0 Sh)) (n := 0) (Post := Post) (fun _ _ _ x => x) (sl := sl) hg (Goes.stop fun w' hw => by obtain ⟨d, rfl⟩ := hw; exact hK Sh g w hk C.sys d)
  refine ⟨N + N₂, last, o, w', t', ?_, ?_, h3, h4⟩
  · rw [show N + N₂ + 1 = N + (N₂ + 1) by omega, runNT_add, hr]; exact h1
  · rw [runN_add, ← runNT_fst P _ _ T, hr]; exact h2
end
end Go.Proofs.YtggfcdhkgldbfaaDoor
