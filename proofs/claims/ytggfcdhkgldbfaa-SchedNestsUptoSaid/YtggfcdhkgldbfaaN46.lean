/-
  PARTS of a claim, merged by segs.py: NwLl, NwNe12.
-/
import Derived.Test.YtggfcdhkgldbfaaN45
import Derived.Test.YtggfcdhkgldbfaaN44
namespace Go.Proofs.Ytggfcdhkgldbfaa
set_option linter.unusedSimpArgs false
set_option linter.unusedVariables false

/-! ### NwLl -/
section
set_option linter.unusedSimpArgs false
open Go Go.Conc Go.RowKit Go.ConcR.Gen Cw

def strV (E : List (Int × ByteArray)) : List Value := E.map fun x => .string x.2
theorem strInfo4 : ∃ i, Try.prog.info? 9 = some i ∧ i.zero = some (.string .empty) ∧ i.size = 1 ∧ i.bytes = 16 := by
  have h : (Try.prog.info? 9).map (fun i => (i.zero, i.size, i.bytes)) = some (some (.string .empty), 1, 16) := by kernel_rfl
  obtain ⟨i, hi, hb⟩ := Option.map_eq_some_iff.1 h
  simp at hb
  exact ⟨i, hi, hb⟩
/-- The row of the notes so far, and an event of one's own beside it. -/
structure LX (W : World) (u : Value) (k : Nat) (l : List Value) (xb : Nat) (i : Int) (s : ByteArray) (w : World) : Prop where
  rg : Ext Vn W w ∧ w.ownsRow W.heap.size 9 1 u k l
  xlo : W.heap.size ≤ xb
  xat : w.heap[xb]? = some (.cells #[.int .i64 i, .string s] 41 (0, 0))
section
variable {Sh : Loc → Prop} {W w w' : World} {u : Value} {k xb : Nat} {l : List Value} {i : Int} {s : ByteArray}
theorem LX.rl (h : LX W u k l xb i s w) (r : Ext Vn w w') : LX W u k l xb i s w' :=
  ⟨⟨h.rg.1.trans r, ownsRow_ext h.rg.2 r fun _ _ => id⟩, h.xlo, (r.same _ (Array.getElem?_eq_some_iff.1 h.xat).1 id).trans h.xat⟩
theorem LX.c0 (h : LX W u k l xb i s w) : w.cell? ⟨xb, 0, none⟩ = some (.int .i64 i) := by simp [World.cell?, h.xat]
theorem LX.c1 (h : LX W u k l xb i s w) : w.cell? ⟨xb, 1, none⟩ = some (.string s) := by simp [World.cell?, h.xat]
theorem LX.unf (h : LX W u k l xb i s w) (j : Nat) : w.frozen? ⟨xb, j, none⟩ = false := by simp [World.frozen?, h.xat]
theorem lx_new (h : Ext Vn W w ∧ w.ownsRow W.heap.size 9 1 u k l) : ∃ xb wz, w.alloc (.cells #[.int .i64 0, .string ⟨#[]⟩] 41) = wz ∧ w.heap.size = xb ∧ LX W u k l xb 0 ⟨#[]⟩ wz :=
  ⟨_, _, rfl, rfl, ⟨⟨ext_alloc h.1 _, h.2.alloc _⟩, h.1.size, heap_alloc_new w _⟩⟩
theorem LX.c1' (h : LX W u k l xb i s w) (j : Int) : (w.setCell ⟨xb, 0, none⟩ (.int .i64 j)).cell? ⟨xb, 1, none⟩ = some (.string s) := by
  simp [World.cell?, World.setCell, Array.getElem?_modify, h.xat]
theorem LX.u1' (h : LX W u k l xb i s w) (j : Int) : (w.setCell ⟨xb, 0, none⟩ (.int .i64 j)).frozen? ⟨xb, 1, none⟩ = false := by
  simp [World.frozen?, World.setCell, Array.getElem?_modify, h.xat]
theorem LX.put {j : Int} {z : ByteArray} (h : LX W u k l xb i s w) : LX W u k l xb j z ((w.setCell ⟨xb, 0, none⟩ (.int .i64 j)).setCell ⟨xb, 1, none⟩ (.string z)) := by
  have hl := h.xlo
  have hs : ∀ b, b ≠ xb → ((w.setCell ⟨xb, 0, none⟩ (.int .i64 j)).setCell ⟨xb, 1, none⟩ (.string z)).heap[b]? = w.heap[b]? := fun b hb => by
    rw [heap_setCell_ne _ _ _ hb, heap_setCell_ne _ _ _ hb]
  refine ⟨⟨⟨by rw [size_setCell', size_setCell']; exact h.rg.1.size, fun b hb _ => (hs b (by omega)).trans (h.rg.1.same b hb id), h.rg.1.tape, h.rg.1.os, h.rg.1.output⟩, ⟨h.rg.2.1, ?_⟩⟩, h.xlo, ?_⟩
  · rcases h.rg.2.2 with hn | ⟨g, cap, cur, rfl, hb, hgg, rest⟩
    · exact .inl hn
    · refine .inr ⟨g, cap, cur, rfl, hb, (hs g fun e => ?_).trans hgg, rest⟩
      rw [e, h.xat] at hgg
      have := Option.some.inj hgg
      simp at this
  · simp only [World.setCell, Array.getElem?_modify, if_true, h.xat, Option.map_some]
    rfl
theorem LX.put_hd (hS : ShOk Sh W) (h : LX W u k l xb i s w) {j : Int} {z : ByteArray} {es : Array Event} (hes : ∀ e ∈ es, e = ⟨.cell ⟨xb, 0, none⟩, true, false⟩ ∨ e = ⟨.cell ⟨xb, 1, none⟩, true, false⟩) :
    HDq (Cx0 Sh) w ((w.setCell ⟨xb, 0, none⟩ (.int .i64 j)).setCell ⟨xb, 1, none⟩ (.string z)) es := by
  have F := floor0 hS
  have hlt : xb < w.heap.size := (Array.getElem?_eq_some_iff.1 h.xat).1
  have hsz : w.heap.size ≤ ((w.setCell ⟨xb, 0, none⟩ (.int .i64 j)).setCell ⟨xb, 1, none⟩ (.string z)).heap.size := by rw [size_setCell', size_setCell']; exact Nat.le_refl _
  refine hdq_grown F h.rg.1.size (row := some xb) ⟨rfl, rfl, rfl, hsz, fun b hb hne => ?_⟩ (fun g hg => ?_) fun e he => .inl ?_
  · have hb' : b ≠ xb := fun e => hne (by rw [e])
    rw [heap_setCell_ne _ _ _ hb', heap_setCell_ne _ _ _ hb']
  · cases hg
    exact ⟨F.ok h.xlo, nobox _⟩
  · rcases hes e he with rfl | rfl
    · exact ⟨_, rfl, Nat.lt_of_lt_of_le hlt hsz, (F.ok h.xlo).sh _ rfl, fun _ hp => hp.elim (fun h => h) fun x => nobox _ x.2.2⟩
    · exact ⟨_, rfl, Nat.lt_of_lt_of_le hlt hsz, (F.ok h.xlo).sh _ rfl, fun _ hp => hp.elim (fun h => h) fun x => nobox _ x.2.2⟩
end
set_option maxRecDepth 100000 in
set_option maxHeartbeats 8000000 in
theorem c_nl {Sh : Loc → Prop} {W : World} {main : Bool} (hS : ShOk Sh W) {al ap aq ae : Option Addr} {n lcap np pcap nq qcap ec : Nat} {E : List (Int × ByteArray)} (hE : EvRow W ae E) (hEl : E.length ≤ 1000000) :
    ∃ k, ∀ (Qx : Exit → Act → World → Prop) (T : Array Value) (w : World), T.size = 71 → T[2]? = some (.slice al n lcap) → T[7]? = some (.slice ap np pcap) → T[8]? = some (.slice aq nq qcap) → T[9]? = some (.slice none 0 0) → T[33]? = some (.slice ae E.length ec) → T[34]? = some (.int .i64 E.length) → T[35]? = some (.int .i64 0) → Ext Vn W w →
      cdNsL.wpC Try.prog main (Ext Vn) (HDq (Cx0 Sh)) 5 k (Exit.then (fun a' w' => ∃ T u, a' = ⟨T, []⟩ ∧ T.size = 71 ∧ T[2]? = some (.slice al n lcap) ∧ T[7]? = some (.slice ap np pcap) ∧ T[8]? = some (.slice aq nq qcap) ∧ T[9]? = some u ∧ Ext Vn W w' ∧ w'.ownsRow W.heap.size 9 1 u (strV E).length (strV E)) Qx) ⟨T, []⟩ w := by
  have rl : ∀ {u : Value} {l : List Value} {k : Nat} {w w' : World}, (Ext Vn W w ∧ w.ownsRow W.heap.size 9 1 u k l) → Ext Vn w w' → (Ext Vn W w' ∧ w'.ownsRow W.heap.size 9 1 u k l) := fun h r => ⟨h.1.trans r, ownsRow_ext h.2 r fun _ _ => id⟩
  obtain ⟨it, hit, hz1, hz2, hz3⟩ := strInfo4
  rcases hE with hE | ⟨eb, eo, rfl, hec⟩
  · have hL0 : E.length ≤ 0 := by rw [hE]; simp
    clear hE
    co_apply Exists.intro
    intro Qx T w hT h2 h7 h8 h9 h33 h34 h35 hF
    rw [arrG71 T hT]
    simp only [gv_of h2, gv_of h7, gv_of h8, gv_of h9, gv_of h33, gv_of h34, gv_of h35]
    simp only [cdNsL, cdNs5, restNs, bodyNs, rt, lf, Try.f5, Option.getD_some]
    co_apply wpC_block (TT Sh)
    co_apply wpC_loop (TT Sh) (fun a' w' => ∃ (T : Array Value) (j : Nat) (u : Value), a' = ⟨T, []⟩ ∧ T.size = 71 ∧ T[2]? = some (.slice al n lcap) ∧ T[7]? = some (.slice ap np pcap) ∧ T[8]? = some (.slice aq nq qcap) ∧ T[9]? = some (u) ∧ T[33]? = some (.slice ae E.length ec) ∧ T[34]? = some (.int .i64 E.length) ∧ T[35]? = some (.int .i64 j) ∧ j ≤ E.length ∧ Ext Vn W w' ∧ w'.ownsRow W.heap.size 9 1 u (strV (E.take j)).length (strV (E.take j))) (fun a' _ => E.length - slotN a' 35) _ (E.length)
    · exact ⟨_, 0, .slice none 0 0, rfl, rfl, rfl, rfl, rfl, rfl, rfl, rfl, rfl, by omega, hF, by simpa [strV] using World.ownsRow_nil _ _ _ _⟩
    · simp [slotN]
    clear hF w
    rintro a' w ⟨T, j, u, rfl, hT, h2, h7, h8, h9, h33, h34, h35, hi, hF⟩
    rw [arrG71 T hT]
    simp only [gv_of h2, gv_of h7, gv_of h8, gv_of h9, gv_of h33, gv_of h34, gv_of h35]
    co_apply wpC_seq (TT Sh)
    co_reg (TT Sh)
    co_op rl hF (co_quiet (TT Sh))
    co_apply opsC_nil (TT Sh)
    co_then
    co_apply wpC_seq (TT Sh) (n₂ := 0)
    co_split (TT Sh) (decide ((j : Int) < (E.length : Int)))
    · intro ht
      exact wpC_absurd (by have : j < E.length := (by simpa using ht); omega)
    · intro ht
      have hjl : j = E.length := by have : ¬ j < E.length := (by simpa using ht); omega
      co_apply wpC_exit (TT Sh)
      co_then
      refine ⟨_, _, rfl, rfl, rfl, rfl, rfl, rfl, hF.1, ?_⟩
      have h2 := hF.2
      rw [List.take_of_length_le (by omega)] at h2
      exact h2
  · co_apply Exists.intro
    intro Qx T w hT h2 h7 h8 h9 h33 h34 h35 hF
    rw [arrG71 T hT]
    simp only [gv_of h2, gv_of h7, gv_of h8, gv_of h9, gv_of h33, gv_of h34, gv_of h35]
    simp only [cdNsL, cdNs5, restNs, bodyNs, rt, lf, Try.f5, Option.getD_some]
    co_apply wpC_block (TT Sh)
    co_apply wpC_loop (TT Sh) (fun a' w' => ∃ (T : Array Value) (j : Nat) (u : Value), a' = ⟨T, []⟩ ∧ T.size = 71 ∧ T[2]? = some (.slice al n lcap) ∧ T[7]? = some (.slice ap np pcap) ∧ T[8]? = some (.slice aq nq qcap) ∧ T[9]? = some (u) ∧ T[33]? = some (.slice (some ⟨eb, eo, none⟩) E.length ec) ∧ T[34]? = some (.int .i64 E.length) ∧ T[35]? = some (.int .i64 j) ∧ j ≤ E.length ∧ Ext Vn W w' ∧ w'.ownsRow W.heap.size 9 1 u (strV (E.take j)).length (strV (E.take j))) (fun a' _ => E.length - slotN a' 35) _ (E.length)
    · exact ⟨_, 0, .slice none 0 0, rfl, rfl, rfl, rfl, rfl, rfl, rfl, rfl, rfl, by omega, hF, by simpa [strV] using World.ownsRow_nil _ _ _ _⟩
    · simp [slotN]
    clear hF w
    rintro a' w ⟨T, j, u, rfl, hT, h2, h7, h8, h9, h33, h34, h35, hi, hF⟩
    rw [arrG71 T hT]
    simp only [gv_of h2, gv_of h7, gv_of h8, gv_of h9, gv_of h33, gv_of h34, gv_of h35]
    co_apply wpC_seq (TT Sh)
    co_reg (TT Sh)
    co_op rl hF (co_quiet (TT Sh))
    co_apply opsC_nil (TT Sh)
    co_then
    co_apply wpC_seq (TT Sh)
    co_split (TT Sh) (decide ((j : Int) < (E.length : Int)))
    · intro ht
      have hjl : j < E.length := by simpa using ht
      co_apply wpC_skip (TT Sh)
      co_then
      co_apply wpC_seq (TT Sh)
      co_apply wpC_block (TT Sh)
      co_apply wpC_seq (TT Sh)
      obtain ⟨px, hpx⟩ : ∃ p, E[j]? = some p := ⟨_, List.getElem?_eq_getElem hjl⟩
      obtain ⟨ix, sx⟩ := px
      have hej := hec j _ hpx
      simp only at hej
      co_reg (TT Sh)
      co_opw rl hF (skip) (co_still (TT Sh))
      co_opw rl hF (have hc0 := cell_ext hF.1 (hej).1; have hc1 := cell_ext hF.1 (hej).2) (refine hdq_read (fun e he => ?_); have hm := mem_listed he; simp [go_sem, *] at hm; rcases hm with rfl | rfl; exact ⟨_, rfl, block_of_cell hc0, sh_no hS (hej).1 (by rfl)⟩; exact ⟨_, rfl, block_of_cell hc1, sh_no hS (hej).2 (by rfl)⟩)
      clear hc0 hc1
      co_opw rl hF (skip) (rw [listed_nil (by simp [go_sem, *])]; exact al_hd (by simp))
      obtain ⟨xb, wz, hwz, hxb, hX⟩ := lx_new hF
      rw [hwz, hxb]
      clear hwz hxb hF
      have hF := hX
      clear hX
      co_opw LX.rl hF (have hc0 := hF.c0; have hz0 := hF.unf 0; have hc1 := hF.c1' ix; have hzz := hF.u1' ix) (exact hF.put_hd hS (fun e he => by have hm := mem_listed he; simp [go_sem, storedEv, events_store_int, events_store_str, *] at hm; exact hm))
      clear hc0 hz0 hc1 hzz
      replace hF := hF.put (j := ix) (z := sx)
      co_apply opsC_nil (TT Sh)
      co_then
      co_reg (TT Sh)
      co_op LX.rl hF (co_quiet (TT Sh))
      co_opw LX.rl hF (skip) (co_still (TT Sh))
      co_opw LX.rl hF (have hc := hF.c1) (refine rd_own hS hF.xlo (block_of_cell hc) (fun e he => ?_); have hm := mem_listed he; simp [go_sem, *] at hm; exact hm)
      clear hc
      have hG := hF.rg
      clear hF
      have hF := hG
      clear hG
      co_opw rl hF (have hm := bS1 sx; have hm' := bS1E sx) (rw [listed_nil (by simp [go_sem, *])]; exact al_hd (by simp))
      have hF2 := And.intro (ext_alloc hF.1 (.cells #[.string sx] 9)) (hF.2.alloc (.cells #[.string sx] 9))
      have hln : (strV (E.take j)).length ≤ E.length := by simp [strV]; omega
      co_apply opsC_append hS (by rfl) (by rfl) (.tmp 39) (.tmp 42) 38 (by rfl) (by kernel_rfl) hit hz1 hz2 hz3 (by rfl) (by omega) (by rfl) (by rfl) (by omega) (news := [.string sx]) (by rfl) (by simp [Value.oneCell']) (by simp only [maxLen]; omega) (by omega) hF2 (news_at _ _ _ _ (by rfl)) (by exact hF.1.size)
      clear hF hF2 hm hm'
      intro v' w' hF
      try walk_nrm
      co_op rl hF (co_quiet (TT Sh))
      co_apply opsC_nil (TT Sh)
      co_then
      have hwr : IntKind.i64.wrap ((j : Int) + 1) = ((j + 1 : Nat) : Int) := by rw [IntKind.wrap_i64]; omega
      co_reg (TT Sh)
      co_op rl hF (co_quiet (TT Sh))
      co_op rl hF (co_quiet (TT Sh))
      co_apply opsC_nil (TT Sh)
      co_then
      refine ⟨⟨_, j + 1, _, rfl, rfl, by first | rfl | simp [hwr], by first | rfl | simp [hwr], by first | rfl | simp [hwr], by first | rfl | simp [hwr], by first | rfl | simp [hwr], by first | rfl | simp [hwr], by first | rfl | simp [hwr], by omega, hF.1, ?_⟩, ?_⟩
      · have h2 := hF.2
        rw [List.take_add_one, hpx]
        simpa [strV] using h2
      · simp [slotN, hwr]
        omega
    · intro ht
      have hjl : j = E.length := by have : ¬ j < E.length := (by simpa using ht); omega
      co_apply wpC_exit (TT Sh)
      co_then
      refine ⟨_, _, rfl, rfl, rfl, rfl, rfl, rfl, hF.1, ?_⟩
      have h2 := hF.2
      rw [List.take_of_length_le (by omega)] at h2
      exact h2
/-- Through the loop. -/
theorem goes_partN {Sh : Loc → Prop} {mn : Bool} {x y : Code} {n : Nat} {K : Act → World → Prop} {a : Act} {w : World} (hK : ∀ a w w', K a w → Ext Vn w w' → K a w')
    (hx : x.wpC Try.prog mn (Ext Vn) (HDq (Cx0 Sh)) 5 n (Exit.then K fun _ _ _ => False) a w) :
    Goes Try.prog mn (Ext Vn) (HDq (Cx0 Sh)) (fun g w => ∃ a', g = G ((base 5).at a' (.code y :: [])) [] ∧ K a' w) n (G ((base 5).at a (.code x :: .code y :: [])) []) w := by
  have := wpC_goes (m := 0) (b := base 5) (k := [.code y]) (cs := []) (Stop := fun g w => ∃ a', g = G ((base 5).at a' (.code y :: [])) [] ∧ K a' w) hx rfl (by simp [base]) (fun e a' w' q => by
    cases e with
    | normal => exact Goes.stop fun w hr => ⟨a', rfl, hK _ _ _ q hr⟩
    | ret => exact q.elim
    | exit id => exact q.elim
    | goto l => exact q.elim
    | panic ch => exact q.elim
    | outgrown => exact q.elim)
  exact this.mono (by omega)
end

/-! ### NwNe12 -/
section
set_option linter.unusedSimpArgs false
open Go Go.Conc Go.RowKit Go.ConcR.Gen Cw
section
variable {W : World} {us : List Value} {L : List (List ByteArray)} {ap al : Option Addr} {qs : List Nat} {ui : List Value} {Li : List (List ByteArray)} {pcap lcap : Nat}
theorem nest_turns0 [Ref] {b : Rb} {e₀ : Re} (I : NestIn W ap al qs ui Li (Sk L 0)) (hN : b.N₀ = W.heap.size) (hFV : b.FV = Vn) (hfwg : ∀ i, i < b.γ → b.Fwg i ≤ W.heap.size) (hS0 : ∀ a, e₀.Sh (.cell a) → a.block < b.N₀ → ∃ st sm, Go.ConcR.WgAt link.tWg a.block W st sm) :
    TurnsOk (nestT W us L (nvN ap al qs.length pcap ui.length lcap)) b e₀ 0 := by
  intro e s r cs m T hG S hk _ _ hE H
  have O : TasksOk (nestT W us L (nvN ap al qs.length pcap ui.length lcap)) b.N₀ b.FV := by rw [hN, hFV]; exact nest_ok
  have key : ∃ j : Nat, s.loc 0 = j := ⟨s.loc 0, rfl⟩
  obtain ⟨j, hj⟩ := key
  cases j with
  | zero =>
    refine nest_turn_first (c := { toRb := b, toRe := e }) S O I hN hFV hfwg (fun a ha hl => ?_) hk hE hj H
    rcases hG.new a ha with h | h
    · exact hS0 a h hl
    · have h1 : b.N₀ ≤ b.B₁ := S.lt1
      have h2 : a.block < b.N₀ := hl
      omega
  | succ j => exact (nest_turn_later (c := { toRb := b, toRe := e }) S O I.n63 hE hj H).mono fun m' T' h => ⟨e, Grow.refl _ _, S, h⟩
theorem nest_walk1 {nv : Value} {Sh0 : Loc → Prop} (h : (notesT W Vn us L).WalkOk W.heap.size Sh0 1) : (nestT W us L nv).WalkOk W.heap.size Sh0 1 :=
  fun X V B r wg ev l m b1 b2 E u xv Wr ex w g hs hAt fx hsh hlo hev hE hF => by
    obtain ⟨s, _, h2, h3, h4, h5⟩ := hs
    exact h X V B r wg ev l m b1 b2 E u xv Wr ex w g ⟨toN s, trivial, h2, h3, h4, h5⟩ hAt fx hsh hlo hev hE hF
theorem nest_tvk (nv : Value) (y : Value) (W : World) (hus : slK us 1 = y) (k : Nat) (v : Value) (h : [Value.iface 43 nv, Value.iface 44 y][k]? = some v) : (nestT W us L nv).tv k = v := by
  match k with
  | 0 => simp at h; subst h; rfl
  | 1 => simp at h; subst h; subst hus; rfl
  | k + 2 => simp at h
/-- The world at the outer call. -/
theorem nest_pre [Ref] {Sh : Loc → Prop} {W : World} {at_ ap0 : Option Addr} {ps : List Nat} {S0 : List ByteArray} {y : Value} (hSh : ShOk Sh W) (I : NestIn W ap al qs ui Li S0) (hus : us = [.slice none 0 0, y]) (hL : L = [S0, [strX0, strY0]]) (hb0 : S0.length ≤ 1000000)
    (ht : VRow W at_ [.iface 43 (nvN ap al qs.length pcap ui.length lcap), .iface 44 y]) (hp : VRow W ap0 (ints ps)) (hy : ∃ a c, y = .slice a 2 c ∧ Nts a [strX0, strY0] W) (γ : Nat) :
    PreG γ Sh at_ ap0 [.iface 43 (nvN ap al qs.length pcap ui.length lcap), .iface 44 y] ps (fun W => nestT W us L (nvN ap al qs.length pcap ui.length lcap)) (fun _ => ()) W := by
  have H := wd_of hSh
  have hLb : ∀ k, (Sk L k).length ≤ 1000000 := fun k => by
    subst hL
    match k with
    | 0 => exact hb0
    | 1 => simp [Sk]
    | k + 2 => simp [Sk]
  have hs1 : slK us 1 = y := by subst hus; rfl
  have hk0 : Sk L 0 = S0 := by subst hL; rfl
  have hk1 : Sk L 1 = [strX0, strY0] := by subst hL; rfl
  refine ⟨hSh, ht, hp, nest_ok, fun w hw b hb _ => hw b hb, fun _ w hw b hb => hw b hb id, fun k v hv => nest_tvk _ y W hs1 k v hv, trivial, notes_sum W Vn us L hLb (n := 2) (by omega), fun b e R hl S k hk => ?_⟩
  have e1 : b.N₀ = W.heap.size := R.N₀
  have e2 : b.FV = Vn := R.FV
  have e3 : b.Fwg = fun _ => 0 := R.Fwg
  match k with
  | 0 =>
    refine nest_turns0 (by rw [hk0]; exact I) e1 e2 (fun i _ => by rw [e3]; exact Nat.zero_le _) (fun a ha hlt => ?_)
    rcases R.sh a ha with h | h
    · exact hSh a h
    · rw [e1] at hlt; omega
  | 1 =>
    obtain ⟨a, c, h1, h2⟩ := hy
    refine turns_of_walk (Sh0 := Sh) (by rw [e1, e2]; exact nest_ok) (by rw [e1]; exact nest_walk1 (notes_walk (fun p a v hc hv hp i => H.sh a v hc hv ⟨p, i, none⟩ hp.symm) (fun a v _ _ hh => hh.elim) 1 ⟨a, c, by rw [hs1, h1, hk1]; rfl, by rw [hk1]; exact h2, by rw [hk1]; simp⟩)) (fun a ha => ?_)
    rw [e1]
    exact R.sh a ha
  | k + 2 => simp at hk; omega
end
end
end Go.Proofs.Ytggfcdhkgldbfaa
