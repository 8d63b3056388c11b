/-
  PARTS of a claim, merged by segs.py: CwOr3, CwOrL.
-/
import Derived.Test.YtggfcdhkgldbfaaC38
import Derived.Test.YtggfcdhkgldbfaaC34
namespace Go.Proofs.Ytggfcdhkgldbfaa
set_option linter.unusedSimpArgs false
set_option linter.unusedVariables false

/-! ### CwOr3 -/
section
set_option linter.unusedSimpArgs false
open Go Go.Conc Go.RowKit Go.ConcR.Gen Cw

set_option maxRecDepth 100000 in
set_option maxHeartbeats 8000000 in
theorem c_o3 {Sh : Loc → Prop} {W : World} {main : Bool} (hS : ShOk Sh W) {lp lo gb cap : Nat} {n lcap : Nat} {us : List Value} {L : List (List ByteArray)} {B : List Nat} {sD sK : Value} (hrow : ∀ (k : Nat) (u : Value), us[k]? = some u → W.cell? ⟨lp, lo + k, none⟩ = some u) (hn1 : us.length ≤ n) (hn2 : n ≤ us.length) (hn10 : n ≤ 10) (hk : ∀ k, ∃ a c, slK us k = .slice a (Sk L k).length c ∧ Nts a (Sk L k) W) (hk20 : ∀ k, (Sk L k).length ≤ 20) (hB : ∀ t, t < n → B[t]? = some (Sk L t).length) (hcap : n ≤ cap) :
    ∃ k, ∀ (Qx : Exit → Act → World → Prop) (T : Array Value) (w : World), T.size = 159 → T[1]? = some (.slice (some ⟨lp, lo, none⟩) n lcap) → T[8]? = some sD → T[10]? = some (.slice (some ⟨gb, 0, none⟩) n cap) → T[11]? = some sK → RG W gb B w →
      cdO3.wpC Try.prog main (Ext Vn) (HDq (Cx0 Sh)) 4 k (Exit.then (fun a' w' => ∃ T, a' = ⟨T, []⟩ ∧ T.size = 159 ∧ T[8]? = some sD ∧ T[11]? = some sK ∧ Ext Vn W w') Qx) ⟨T, []⟩ w := by
  co_apply Exists.intro
  intro Qx T w hT h1 h8 h10 h11 hF
  rw [arrG159 T hT]
  simp only [gv_of h1, gv_of h8, gv_of h10, gv_of h11]
  simp only [cdO1, cdO2, cdO3, loopsO, restO, bodyO, rt, lf, Try.f4, Option.getD_some]
  co_apply wpC_seq (TT Sh)
  co_reg (TT Sh)
  co_op RG.rl hF (co_quiet (TT Sh))
  co_op RG.rl hF (co_quiet (TT Sh))
  co_op RG.rl hF (co_quiet (TT Sh))
  co_apply opsC_nil (TT Sh)
  co_then
  co_apply wpC_block (TT Sh)
  co_apply wpC_loop (TT Sh) (fun a' w' => ∃ (T : Array Value) (tt : Nat), a' = ⟨T, []⟩ ∧ T.size = 159 ∧ T[8]? = some (sD) ∧ T[10]? = some (.slice (some ⟨gb, 0, none⟩) n cap) ∧ T[11]? = some (sK) ∧ T[137]? = some (.slice (some ⟨lp, lo, none⟩) n lcap) ∧ T[138]? = some (.int .i64 n) ∧ T[139]? = some (.int .i64 tt) ∧ tt ≤ n ∧ RG W gb B w') (fun a' _ => n - slotN a' 139) _ (n)
  · exact ⟨_, 0, rfl, rfl, rfl, rfl, rfl, rfl, rfl, rfl, by omega, hF⟩
  · simp [slotN]
  clear hF w
  rintro a' w ⟨T, tt, rfl, hT, h8, h10, h11, h137, h138, h139, hi, hF⟩
  rw [arrG159 T hT]
  simp only [gv_of h8, gv_of h10, gv_of h11, gv_of h137, gv_of h138, gv_of h139]
  co_apply wpC_seq (TT Sh)
  co_reg (TT Sh)
  co_op RG.rl hF (co_quiet (TT Sh))
  co_apply opsC_nil (TT Sh)
  co_then
  co_apply wpC_seq (TT Sh)
  co_split (TT Sh) (decide ((tt : Int) < (n : Int)))
  · intro ht
    have htl : tt < n := by simpa using ht
    co_apply wpC_skip (TT Sh)
    co_then
    co_apply wpC_seq (TT Sh)
    co_apply wpC_block (TT Sh)
    co_apply wpC_seq (TT Sh)
    obtain ⟨uu, huu⟩ : ∃ uu, us[tt]? = some uu := ⟨_, List.getElem?_eq_getElem (by omega)⟩
    obtain ⟨sa, sc, hut0, hnt⟩ := hk tt
    have hut : us[tt]? = some (.slice sa (Sk L tt).length sc) := by rw [← hut0]; simp [slK, huu]
    clear hut0 hnt huu
    have hBt := hB tt htl
    co_reg (TT Sh)
    co_op RG.rl hF (co_quiet (TT Sh))
    co_opw RG.rl hF (skip) (co_still (TT Sh))
    co_opw RG.rl hF (have hc := cell_ext hF.ext (hrow tt _ hut)) (refine rd_old hS hF.ext (hrow tt _ hut) (by rfl) (fun e he => ?_); have hm := mem_listed he; simp [go_sem, *] at hm; exact hm)
    clear hc
    co_op RG.rl hF (co_quiet (TT Sh))
    co_op RG.rl hF (co_quiet (TT Sh))
    co_apply opsC_nil (TT Sh)
    co_then
    co_apply wpC_seq (TT Sh)
    co_reg (TT Sh)
    co_op RG.rl hF (co_quiet (TT Sh))
    co_op RG.rl hF (co_quiet (TT Sh))
    co_opw RG.rl hF (skip) (co_still (TT Sh))
    co_opw RG.rl hF (have hc := hF.cell hBt) (refine rd_own hS hF.lo (block_of_cell hc) (fun e he => ?_); have hm := mem_listed he; simp [go_sem, *] at hm; exact hm)
    clear hc
    co_op RG.rl hF (co_quiet (TT Sh))
    co_opw RG.rl hF (skip) (co_still (TT Sh))
    co_op RG.rl hF (co_quiet (TT Sh))
    co_apply opsC_nil (TT Sh)
    co_then
    co_apply wpC_cond (TT Sh) (t := false)
    · simp [Act.eval]
    simp only [if_false, reduceIte, Bool.false_eq_true]
    co_apply wpC_skip (TT Sh)
    co_then
    have hwtt : IntKind.i64.wrap ((tt : Int) + 1) = ((tt + 1 : Nat) : Int) := by rw [IntKind.wrap_i64]; omega
    co_reg (TT Sh)
    co_op RG.rl hF (co_quiet (TT Sh))
    co_op RG.rl hF (co_quiet (TT Sh))
    co_apply opsC_nil (TT Sh)
    co_then
    refine ⟨⟨_, tt + 1, rfl, rfl, by first | rfl | simp [hwtt], by first | rfl | simp [hwtt], by first | rfl | simp [hwtt], by first | rfl | simp [hwtt], by first | rfl | simp [hwtt], by first | rfl | simp [hwtt], by omega, hF⟩, ?_⟩
    simp [slotN, hwtt]
    omega
  · intro ht
    co_apply wpC_exit (TT Sh)
    co_then
    refine ⟨_, rfl, rfl, rfl, rfl, hF.ext⟩
set_option maxRecDepth 100000 in
set_option maxHeartbeats 8000000 in
theorem c_o1e {Sh : Loc → Prop} {W : World} {main : Bool} {al ad : Option Addr} {n lcap dn dc : Nat} {sE : Value} (hn : n ≤ 0) (hd : dn ≤ 0) :
    ∃ k, ∀ (Qx : Exit → Act → World → Prop) (T : Array Value) (w : World), T.size = 159 → T[1]? = some (.slice al n lcap) → T[6]? = some sE → T[8]? = some (.slice ad dn dc) → T[10]? = some (.slice none 0 0) → T[11]? = some (.int .i64 0) → Ext Vn W w →
      cdO1.wpC Try.prog main (Ext Vn) (HDq (Cx0 Sh)) 4 k (Exit.then (fun a' w' => ∃ T, a' = ⟨T, []⟩ ∧ T.size = 159 ∧ T[1]? = some (.slice al n lcap) ∧ T[6]? = some sE ∧ T[8]? = some (.slice ad dn dc) ∧ T[11]? = some (.int .i64 dn) ∧ Ext Vn W w') Qx) ⟨T, []⟩ w := by
  have rl0 : ∀ {w w' : World}, Ext Vn W w → Ext Vn w w' → Ext Vn W w' := fun h r => h.trans r
  co_apply Exists.intro
  intro Qx T w hT h1 h6 h8 h10 h11 hF
  rw [arrG159 T hT]
  simp only [gv_of h1, gv_of h6, gv_of h8, gv_of h10, gv_of h11]
  simp only [cdO1, cdO2, cdO3, loopsO, restO, bodyO, rt, lf, Try.f4, Option.getD_some]
  co_apply wpC_seq (TT Sh)
  co_reg (TT Sh)
  co_op rl0 hF (co_quiet (TT Sh))
  co_op rl0 hF (co_quiet (TT Sh))
  co_op rl0 hF (co_quiet (TT Sh))
  co_apply opsC_nil (TT Sh)
  co_then
  co_apply wpC_block (TT Sh)
  co_apply wpC_loop (TT Sh) (fun a' w' => ∃ (T : Array Value) (tt : Nat), a' = ⟨T, []⟩ ∧ T.size = 159 ∧ T[1]? = some (.slice al n lcap) ∧ T[6]? = some (sE) ∧ T[8]? = some (.slice ad dn dc) ∧ T[11]? = some (.int .i64 0) ∧ T[48]? = some (.slice al n lcap) ∧ T[49]? = some (.int .i64 n) ∧ T[50]? = some (.int .i64 tt) ∧ tt ≤ n ∧ Ext Vn W w') (fun a' _ => n - slotN a' 50) _ (n)
  · exact ⟨_, 0, rfl, rfl, rfl, rfl, rfl, rfl, rfl, rfl, rfl, by omega, hF⟩
  · simp [slotN]
  clear hF w
  rintro a' w ⟨T, tt, rfl, hT, h1, h6, h8, h11, h48, h49, h50, hi, hF⟩
  rw [arrG159 T hT]
  simp only [gv_of h1, gv_of h6, gv_of h8, gv_of h11, gv_of h48, gv_of h49, gv_of h50]
  co_apply wpC_seq (TT Sh)
  co_reg (TT Sh)
  co_op rl0 hF (co_quiet (TT Sh))
  co_apply opsC_nil (TT Sh)
  co_then
  co_apply wpC_seq (TT Sh) (n₂ := 0)
  co_split (TT Sh) (decide ((tt : Int) < (n : Int)))
  · intro ht
    exact wpC_absurd (by have : tt < n := (by simpa using ht); omega)
  · intro ht
    co_apply wpC_exit (TT Sh)
    co_then
    have hd0 : dn = 0 := by omega
    refine ⟨_, rfl, rfl, rfl, rfl, rfl, ?_, hF⟩
    simp [hd0]
set_option maxRecDepth 100000 in
set_option maxHeartbeats 8000000 in
theorem c_o2e {Sh : Loc → Prop} {W : World} {main : Bool} {al ae : Option Addr} {n lcap en ec : Nat} {sD sK : Value} (hn : en ≤ 0) :
    ∃ k, ∀ (Qx : Exit → Act → World → Prop) (T : Array Value) (w : World), T.size = 159 → T[1]? = some (.slice al n lcap) → T[6]? = some (.slice ae en ec) → T[8]? = some sD → T[11]? = some sK → Ext Vn W w →
      cdO2.wpC Try.prog main (Ext Vn) (HDq (Cx0 Sh)) 4 k (Exit.then (fun a' w' => ∃ T, a' = ⟨T, []⟩ ∧ T.size = 159 ∧ T[1]? = some (.slice al n lcap) ∧ T[8]? = some sD ∧ T[11]? = some sK ∧ Ext Vn W w') Qx) ⟨T, []⟩ w := by
  have rl0 : ∀ {w w' : World}, Ext Vn W w → Ext Vn w w' → Ext Vn W w' := fun h r => h.trans r
  co_apply Exists.intro
  intro Qx T w hT h1 h6 h8 h11 hF
  rw [arrG159 T hT]
  simp only [gv_of h1, gv_of h6, gv_of h8, gv_of h11]
  simp only [cdO1, cdO2, cdO3, loopsO, restO, bodyO, rt, lf, Try.f4, Option.getD_some]
  co_apply wpC_seq (TT Sh)
  co_reg (TT Sh)
  co_op rl0 hF (co_quiet (TT Sh))
  co_op rl0 hF (co_quiet (TT Sh))
  co_op rl0 hF (co_quiet (TT Sh))
  co_apply opsC_nil (TT Sh)
  co_then
  co_apply wpC_block (TT Sh)
  co_apply wpC_loop (TT Sh) (fun a' w' => ∃ (T : Array Value) (tt : Nat), a' = ⟨T, []⟩ ∧ T.size = 159 ∧ T[1]? = some (.slice al n lcap) ∧ T[8]? = some (sD) ∧ T[11]? = some (sK) ∧ T[82]? = some (.slice ae en ec) ∧ T[83]? = some (.int .i64 en) ∧ T[84]? = some (.int .i64 tt) ∧ tt ≤ en ∧ Ext Vn W w') (fun a' _ => en - slotN a' 84) _ (en)
  · exact ⟨_, 0, rfl, rfl, rfl, rfl, rfl, rfl, rfl, rfl, by omega, hF⟩
  · simp [slotN]
  clear hF w
  rintro a' w ⟨T, tt, rfl, hT, h1, h8, h11, h82, h83, h84, hi, hF⟩
  rw [arrG159 T hT]
  simp only [gv_of h1, gv_of h8, gv_of h11, gv_of h82, gv_of h83, gv_of h84]
  co_apply wpC_seq (TT Sh)
  co_reg (TT Sh)
  co_op rl0 hF (co_quiet (TT Sh))
  co_apply opsC_nil (TT Sh)
  co_then
  co_apply wpC_seq (TT Sh) (n₂ := 0)
  co_split (TT Sh) (decide ((tt : Int) < (en : Int)))
  · intro ht
    exact wpC_absurd (by have : tt < en := (by simpa using ht); omega)
  · intro ht
    co_apply wpC_exit (TT Sh)
    co_then
    refine ⟨_, rfl, rfl, rfl, rfl, rfl, hF⟩
set_option maxRecDepth 100000 in
set_option maxHeartbeats 8000000 in
theorem c_o3e {Sh : Loc → Prop} {W : World} {main : Bool} {al : Option Addr} {n lcap : Nat} {sD sK : Value} (hn : n ≤ 0) :
    ∃ k, ∀ (Qx : Exit → Act → World → Prop) (T : Array Value) (w : World), T.size = 159 → T[1]? = some (.slice al n lcap) → T[8]? = some sD → T[11]? = some sK → Ext Vn W w →
      cdO3.wpC Try.prog main (Ext Vn) (HDq (Cx0 Sh)) 4 k (Exit.then (fun a' w' => ∃ T, a' = ⟨T, []⟩ ∧ T.size = 159 ∧ T[8]? = some sD ∧ T[11]? = some sK ∧ Ext Vn W w') Qx) ⟨T, []⟩ w := by
  have rl0 : ∀ {w w' : World}, Ext Vn W w → Ext Vn w w' → Ext Vn W w' := fun h r => h.trans r
  co_apply Exists.intro
  intro Qx T w hT h1 h8 h11 hF
  rw [arrG159 T hT]
  simp only [gv_of h1, gv_of h8, gv_of h11]
  simp only [cdO1, cdO2, cdO3, loopsO, restO, bodyO, rt, lf, Try.f4, Option.getD_some]
  co_apply wpC_seq (TT Sh)
  co_reg (TT Sh)
  co_op rl0 hF (co_quiet (TT Sh))
  co_op rl0 hF (co_quiet (TT Sh))
  co_op rl0 hF (co_quiet (TT Sh))
  co_apply opsC_nil (TT Sh)
  co_then
  co_apply wpC_block (TT Sh)
  co_apply wpC_loop (TT Sh) (fun a' w' => ∃ (T : Array Value) (tt : Nat), a' = ⟨T, []⟩ ∧ T.size = 159 ∧ T[8]? = some (sD) ∧ T[11]? = some (sK) ∧ T[137]? = some (.slice al n lcap) ∧ T[138]? = some (.int .i64 n) ∧ T[139]? = some (.int .i64 tt) ∧ tt ≤ n ∧ Ext Vn W w') (fun a' _ => n - slotN a' 139) _ (n)
  · exact ⟨_, 0, rfl, rfl, rfl, rfl, rfl, rfl, rfl, by omega, hF⟩
  · simp [slotN]
  clear hF w
  rintro a' w ⟨T, tt, rfl, hT, h8, h11, h137, h138, h139, hi, hF⟩
  rw [arrG159 T hT]
  simp only [gv_of h8, gv_of h11, gv_of h137, gv_of h138, gv_of h139]
  co_apply wpC_seq (TT Sh)
  co_reg (TT Sh)
  co_op rl0 hF (co_quiet (TT Sh))
  co_apply opsC_nil (TT Sh)
  co_then
  co_apply wpC_seq (TT Sh) (n₂ := 0)
  co_split (TT Sh) (decide ((tt : Int) < (n : Int)))
  · intro ht
    exact wpC_absurd (by have : tt < n := (by simpa using ht); omega)
  · intro ht
    co_apply wpC_exit (TT Sh)
    co_then
    refine ⟨_, rfl, rfl, rfl, rfl, hF⟩
end

/-! ### CwOrL -/
section
set_option linter.unusedSimpArgs false
open Go Go.Conc Go.RowKit Go.ConcR.Gen Cw

theorem enter_ord (v lv : Value) : Frame.enter Try.prog 4 #[v, lv] .normal = fOr #[v, lv, undef, undef, undef, undef, undef, undef, undef, undef, undef, undef, undef, undef, undef, undef, undef, undef, undef, undef, undef, undef, undef, undef, undef, undef, undef, undef, undef, undef, undef, undef, undef, undef, undef, undef, undef, undef, undef, undef, undef, undef, undef, undef, undef, undef, undef, undef, undef, undef, undef, undef, undef, undef, undef, undef, undef, undef, undef, undef, undef, undef, undef, undef, undef, undef, undef, undef, undef, undef, undef, undef, undef, undef, undef, undef, undef, undef, undef, undef, undef, undef, undef, undef, undef, undef, undef, undef, undef, undef, undef, undef, undef, undef, undef, undef, undef, undef, undef, undef, undef, undef, undef, undef, undef, undef, undef, undef, undef, undef, undef, undef, undef, undef, undef, undef, undef, undef, undef, undef, undef, undef, undef, undef, undef, undef, undef, undef, undef, undef, undef, undef, undef, undef, undef, undef, undef, undef, undef, undef, undef, undef, undef, undef, undef, undef, undef, undef, undef, undef, undef, undef, undef, undef, undef, undef, undef, undef, undef] [.code bodyO] := by
  rw [enter_at (c := bodyO) _ Try.func4 (by simp [bodyO, Try.f4])]
  simp only [Try.ntmps4, List.size_toArray, List.length_cons, List.length_nil, Nat.reduceAdd, Nat.reduceSub, Nat.zero_add, Nat.sub_zero, Array.replicate_succ, Array.replicate_zero, List.push_toArray, List.append_toArray, List.nil_append, List.cons_append]
theorem fin_ord {Sh : Loc → Prop} {T : Array Value} {k : List Item} {W w : World} (h4 : T[4]? = some (.bool true)) (h : Leaves W w) : AtFin Try.prog (Cx0 Sh) (fun r w' => r = .bool true ∧ Leaves W w') (G { fOr T k with mode := .returning } []) w := by
  refine ⟨rfl, fun d => ⟨.bool true, #[], ?_, by simp, rfl, ⟨h.keep.1, h.keep.2⟩, h.os, h.output⟩⟩
  simp [G, stepG, unwind, doReturn, results, Frame.at, base, Try.func4, Try.f4, seen, GStep.after, h4]
theorem loopsO_eq : loopsO = .seq cdO1 (rt loopsO) := by
  simp only [cdO1, loopsO, restO, bodyO, rt, lf, Try.f4, Option.getD_some]
theorem loopsO_eq2 : rt loopsO = .seq cdO2 (rt (rt loopsO)) := by
  simp only [cdO2, loopsO, restO, bodyO, rt, lf, Try.f4, Option.getD_some]
theorem loopsO_eq3 : rt (rt loopsO) = .seq cdO3 lastO := by
  simp only [cdO3, lastO, loopsO, restO, bodyO, rt, lf, Try.f4, Option.getD_some]
/-- Through one part of the body. -/
theorem goes_part {Sh : Loc → Prop} {mn : Bool} {x y : Code} {n : Nat} {K : Act → World → Prop} {a : Act} {w : World} (hK : ∀ a w w', K a w → Ext Vn w w' → K a w')
    (hx : ∀ w', Ext Vn w w' → x.wpC Try.prog mn (Ext Vn) (HDq (Cx0 Sh)) 4 n (Exit.then K fun _ _ _ => False) a w') :
    Goes Try.prog mn (Ext Vn) (HDq (Cx0 Sh)) (fun g w => ∃ a', g = G ((base 4).at a' (.code y :: [])) [] ∧ K a' w) (n + 1) (G ((base 4).at a (.code (.seq x y) :: [])) []) w := by
  refine Goes.step rfl (fun w' hr => ?_)
  rw [stepG_seq]
  simp only [goes_go]
  refine ⟨hdq_idle _ _, ?_⟩
  have := wpC_goes (m := 0) (b := base 4) (k := [.code y]) (cs := []) (Stop := fun g w => ∃ a', g = G ((base 4).at a' (.code y :: [])) [] ∧ K a' w) (hx w' hr) rfl (by simp [base]) (fun e a' w' q => by
    cases e with
    | normal => exact Goes.stop fun w hr => ⟨a', rfl, hK _ _ _ q hr⟩
    | ret => exact q.elim
    | exit id => exact q.elim
    | goto l => exact q.elim
    | panic ch => exact q.elim
    | outgrown => exact q.elim)
  exact this.mono (by omega)

set_option maxHeartbeats 4000000 in
theorem law_orders (W : World) {v lv : Value} {p : List Nat} {L : List (List ByteArray)} (hp : U8Row W v p) (hl : StrRows W lv L) (hpl : p.length ≤ 17179869184) (hx : ∀ x ∈ p, x < 256) (hn : L.length < 9223372036854775807) (hln : ∀ S ∈ L, S.length < 9223372036854775807) :
    ∃ M last o w' t', runNT Try.prog (M + 1) (solo (G (Frame.enter Try.prog 4 #[v, lv] .normal) []) W) #[] = (.ended o w', t') ∧ runN Try.prog M (solo (G (Frame.enter Try.prog 4 #[v, lv] .normal) []) W) = .next last ∧
      step Try.prog last = .ended o w' ∧ Go.Conc.Good Try.prog (fun r w' => r = .bool true ∧ Leaves W w') last o w' t' := by
  letI : Ref := ⟨W⟩
  obtain ⟨al, lcap, us, rfl, hul, hus, huS, huk⟩ := rows_us hl
  rw [enter_ord]
  have H₀ := held_init Try.prog (G (fOr #[v, .slice al L.length lcap, undef, undef, undef, undef, undef, undef, undef, undef, undef, undef, undef, undef, undef, undef, undef, undef, undef, undef, undef, undef, undef, undef, undef, undef, undef, undef, undef, undef, undef, undef, undef, undef, undef, undef, undef, undef, undef, undef, undef, undef, undef, undef, undef, undef, undef, undef, undef, undef, undef, undef, undef, undef, undef, undef, undef, undef, undef, undef, undef, undef, undef, undef, undef, undef, undef, undef, undef, undef, undef, undef, undef, undef, undef, undef, undef, undef, undef, undef, undef, undef, undef, undef, undef, undef, undef, undef, undef, undef, undef, undef, undef, undef, undef, undef, undef, undef, undef, undef, undef, undef, undef, undef, undef, undef, undef, undef, undef, undef, undef, undef, undef, undef, undef, undef, undef, undef, undef, undef, undef, undef, undef, undef, undef, undef, undef, undef, undef, undef, undef, undef, undef, undef, undef, undef, undef, undef, undef, undef, undef, undef, undef, undef, undef, undef, undef, undef, undef, undef, undef, undef, undef, undef, undef, undef, undef, undef, undef] [.code bodyO]) [])
  change Held Try.prog (Cx0 fun _ => False) Vn 0 0 1 Gone (fun g w => _ ∧ Ext Vn W w) _ _ at H₀
  have hS0 : ∀ w, ShOk (fun _ => False) w := fun w a h => h.elim
  refine Held.finish (K := fun g w => ∃ T' k, T'[4]? = some (.bool true) ∧ g = G { fOr T' k with mode := .returning } [] ∧ Keep W w) ?_ (fun Sh g w hK hi d => by
    obtain ⟨T', k, h4, rfl, hk⟩ := hK
    exact fin_ord (w := w.at d) h4 ⟨⟨hk.1, hk.2⟩, hi.1, hi.2⟩)
  obtain ⟨P, hP⟩ : ∃ P, P = validP p L.length := ⟨_, rfl⟩
  have hPl : P.length ≤ p.length := by rw [hP]; exact valid_len
  have hPx : ∀ x ∈ P, x < L.length := by rw [hP]; exact valid_lt
  -- valid
  obtain ⟨k1, c1⟩ := c_valid (main := (0 == 0)) (hS0 W) hp L.length hpl hn hx
  rw [← hP] at c1
  refine (H₀.walk gone_stb fun g w hK => ⟨10 + k1 + 3 + 20, by
    obtain ⟨rfl, hK⟩ := hK
    exact o_valid (mn := (0 == 0)) (Q := fun w => Ext Vn W w) (fun _ _ h r => h.trans r) (Rv := fun r w => ∃ a c, r = .slice a P.length c ∧ VRow w a (ints P)) w hK (fun w hw => (c1 w hw).mono fun r w' h => ⟨h.1, by
      obtain ⟨a, c, h1, h2, h3⟩ := own_vrow h.2
      exact ⟨a, c, by rw [h1, h3], h2⟩⟩) (fun r w w' h e => by obtain ⟨a, c, h1, h2⟩ := h; exact ⟨a, c, h1, vrow_ext h2 e⟩)⟩).bind fun m₁ T₁ H₁ => ?_
  have H₁' := H₁.mono (K' := fun g w => ∃ a c T', (T'.size = 159 ∧ T'[1]? = some (.slice al L.length lcap) ∧ T'[23]? = some (.slice a P.length c)) ∧ g = G (fOr T' (.inRegion opsO1 [4] :: .code (rt (rt bodyO)) :: [])) [] ∧ (Ext Vn W w ∧ VRow w a (ints P))) (fun g w h => by
    obtain ⟨r, T', h1, h2, h3, a, c, rfl, h4⟩ := h
    exact ⟨a, c, T', h1, h2, h3, h4⟩) (fun _ _ h => h)
  obtain ⟨ap, H₂⟩ := H₁'.ex
  obtain ⟨pcap, H₂⟩ := H₂.ex
  obtain ⟨T2, H₂⟩ := H₂.ex
  obtain ⟨⟨a1, a2, a3⟩, H₂⟩ := H₂.and
  obtain ⟨W₁, ⟨e1, vp⟩, H₂⟩ := H₂.anchor
  clear H₀ H₁ H₁' c1
  have kW1 := keep_of e1
  -- few
  obtain ⟨k2, c2⟩ := c_few (main := (0 == 0)) (hS0 W₁) ap P.length pcap (strrows_kp kW1 hl) hn hln (by omega)
  refine (H₂.walk gone_stb fun g w hK => ⟨10 + k2 + 3 + 20, by
    obtain ⟨rfl, hK⟩ := hK
    exact o_few (mn := (0 == 0)) (Q := fun w => Ext Vn W₁ w) (fun _ _ h r => h.trans r) w hK T2 a1 a2 a3 c2⟩).bind fun m₃ T₃ H₃ => ?_
  obtain ⟨T3, H₃⟩ := H₃.ex
  obtain ⟨⟨b1, b2, b3, b4⟩, H₃⟩ := H₃.and
  clear H₂ c2
  cases hfew : fewB P.length L with
  | false =>
    rw [hfew] at b4
    refine (H₃.walk gone_stb fun g w hK => ⟨20, by
      obtain ⟨rfl, hK⟩ := hK
      exact o_no (mn := (0 == 0)) (Q := fun w => Ext Vn W₁ w) (fun _ _ h r => h.trans r) w hK T3 b1 b4⟩).bind fun m₄ T₄ H₄ => ?_
    obtain ⟨T4, H₄⟩ := H₄.ex
    obtain ⟨d1, H₄⟩ := H₄.and
    refine (awake_call (Q := fun w => Ext Vn W₁ w) (Nat.le_refl 1) (b₀ := base 4) (a₀ := ⟨T4, []⟩) (ops := opsO3) (j := 0) (rest := [1]) (kk := .code .ret :: .code restO :: []) (cs := []) (H₄.mono (fun g w h => ⟨h.1, hS0 w, h.2⟩) (fun _ _ h => h))).bind fun m₅ T₅ H₅ => ?_
    obtain ⟨Sh₅, H₅⟩ := H₅
    have H₅' := H₅.mono (K' := fun g w => g = G ((base 4).at (Act.put ⟨T4, []⟩ ((opsO3[0]?).bind (·.dst)) (.bool true)) (.inRegion opsO3 [1] :: .code .ret :: .code restO :: [])) [] ∧ Keep W w) (fun g w h => by
      obtain ⟨Wx, h1, h2, h3, h4⟩ := h
      exact ⟨h1, kW1.trans ((keep_of h2).trans h3)⟩) (fun _ _ h => h)
    refine (H₅'.walk gone_stb fun g w hK => ⟨10, by
      obtain ⟨rfl, hK⟩ := hK
      exact o_out0 (mn := (0 == 0)) (Q := fun w => Keep W w) (fun _ _ h r => h.ext r) w hK T4 d1⟩).mono fun m' T' H => ⟨_, _, H⟩
  | true =>
    rw [hfew] at b4
    obtain ⟨f1, f2, f3⟩ := few_of hfew
    have hus1 := vrow_kp kW1 hus
    have huk1 : ∀ k, ∃ a c, slK us k = .slice a (Sk L k).length c ∧ Nts a (Sk L k) W₁ := fun k => by
      obtain ⟨a, c, h1, h2⟩ := huk k
      exact ⟨a, c, h1, nts_kp kW1 h2⟩
    -- tasks, and into sched.Run
    obtain ⟨k3, c3⟩ := c_tasks (main := (0 == 0)) (hS0 W₁) lcap hus1 (by omega) huS
    rw [hul] at c3
    refine (H₃.walk gone_stb fun g w hK => ⟨10 + k3 + 3 + 20, by
      obtain ⟨rfl, hK⟩ := hK
      exact o_yes (mn := (0 == 0)) (Q := fun w => Ext Vn W₁ w) (fun _ _ h r => h.trans r) (Rv := fun r w => ∃ a c, r = .slice a us.length c ∧ VRow w a (ifs us)) w hK T3 b1 b2 b3 b4 (fun w hw => (c3 w hw).mono fun r w' h => ⟨h.1, by
        obtain ⟨a, c, h1, h2, h3⟩ := own_vrow h.2
        exact ⟨a, c, by rw [h1]; simp [ifs], h2⟩⟩) (fun r w w' h e => by obtain ⟨a, c, h1, h2⟩ := h; exact ⟨a, c, h1, vrow_ext h2 e⟩)⟩).bind fun m₄ T₄ H₄ => ?_
    have H₄' := H₄.mono (K' := fun g w => ∃ a c T', (T'.size = 159 ∧ T'[1]? = some (.slice al L.length lcap)) ∧ (g = G (fRun (entryT (.slice ap P.length pcap) (.slice a us.length c)) [.code bodyM]) ((base 4).at ⟨T', []⟩ (.inRegion opsO4 (3 :: [4, 5, 6, 7, 8]) :: .code (rt restO) :: []) :: []) ∧ Pre (fun _ => False) a ap us L P w ∧ Ext Vn W₁ w)) (fun g w h => by
      obtain ⟨r, T', h1, h2, h3, a, c, rfl, h4⟩ := h
      exact ⟨a, c, T', h1, h2, ⟨hS0 w, h4, vrow_kp (keep_of h3) vp, fun k => by
        obtain ⟨a, c, h1, h2⟩ := huk1 k
        exact ⟨a, c, h1, nts_kp (keep_of h3) h2⟩⟩, h3⟩) (fun _ _ h => h)
    obtain ⟨at_, H₄⟩ := H₄'.ex
    obtain ⟨tc, H₄⟩ := H₄.ex
    obtain ⟨T4, H₄⟩ := H₄.ex
    obtain ⟨⟨d1, d2⟩, H₄⟩ := H₄.and
    clear H₃ c3
    refine (run_notes (Q := fun w => Ext Vn W₁ w) (Nat.le_refl 1) (by omega) (by omega) (fun i hi => by rw [hul]; exact hPx i hi) huS (fun k => by have := f3 k; omega) H₄).bind fun m₅ T₅ H₅ => ?_
    obtain ⟨Sh₅, H₅⟩ := H₅
    have hE : ∀ Wx, ((notesT Wx us L).fin () us.length P).E = refRun L P := fun Wx => fin_ref (n := us.length) hul.symm (fun k hk => by rw [hul]; exact hPx k hk)
    obtain ⟨E, hEE⟩ : ∃ E, E = refRun L P := ⟨_, rfl⟩
    have H₅' := H₅.mono (K' := fun g w => ∃ a c, g = G ((base 4).at (Act.put ⟨T4, []⟩ ((opsO4[3]?).bind (·.dst)) (.tuple #[.slice a E.length c, .int .i64 0])) (.inRegion opsO4 [4, 5, 6, 7, 8] :: .code (rt restO) :: [])) [] ∧ (EvRow w a E ∧ Keep W₁ w ∧ ShOk Sh₅ w)) (fun g w h => by
      obtain ⟨Wx, u, rfl, _, hkW, hk, hsh, hrow⟩ := h
      rw [hE, ← hEE] at hrow
      obtain ⟨a, c, rfl, h2⟩ := own_evrow hrow
      exact ⟨a, c, rfl, h2, (keep_of hkW).trans hk, hsh⟩) (fun _ _ h => h)
    obtain ⟨ae, H₆⟩ := H₅'.ex
    obtain ⟨ce, H₆⟩ := H₆.ex
    obtain ⟨W₂, ⟨ev2, kp2, sh2⟩, H₆⟩ := H₆.anchor
    have hus2 := vrow_kp kp2 hus1
    -- tasks once more, and into sched.Run without picks
    obtain ⟨k5, c5⟩ := c_tasks (main := (0 == 0)) sh2 lcap hus2 (by omega) huS
    rw [hul] at c5
    refine (H₆.walk gone_stb fun g w hK => ⟨10 + k5 + 3 + 40, by
      obtain ⟨rfl, hK⟩ := hK
      exact o_mid (mn := (0 == 0)) (Q := fun w => Ext Vn W₂ w) (fun _ _ h r => h.trans r) (Rv := fun r w => ∃ a c, r = .slice a us.length c ∧ VRow w a (ifs us)) w hK T4 d1 d2 (fun w hw => (c5 w hw).mono fun r w' h => ⟨h.1, by
        obtain ⟨a, c, h1, h2, h3⟩ := own_vrow h.2
        exact ⟨a, c, by rw [h1]; simp [ifs], h2⟩⟩) (fun r w w' h e => by obtain ⟨a, c, h1, h2⟩ := h; exact ⟨a, c, h1, vrow_ext h2 e⟩)⟩).bind fun m₆ T₆ H₇ => ?_
    have H₇' := H₇.mono (K' := fun g w => ∃ a c T', (T'.size = 159 ∧ T'[1]? = some (.slice al L.length lcap) ∧ T'[6]? = some (.slice ae E.length ce) ∧ T'[7]? = some (.int .i64 0)) ∧ (g = G (fRun (entryT (.slice none ([] : List Nat).length 0) (.slice a us.length c)) [.code bodyM]) ((base 4).at ⟨T', []⟩ (.inRegion opsO5 (2 :: [3, 4, 5, 6, 7]) :: .code (rt (rt restO)) :: []) :: []) ∧ Pre Sh₅ a none us L [] w ∧ Ext Vn W₂ w)) (fun g w h => by
      obtain ⟨r, T', h1, h2, h3, a, c, rfl, h4⟩ := h
      exact ⟨a, c, T', h1, h2, ⟨pre_ext sh2 h3, h4, .inl rfl, fun k => by
        obtain ⟨a, c, h1, h2⟩ := huk1 k
        exact ⟨a, c, h1, nts_kp (kp2.trans (keep_of h3)) h2⟩⟩, h3⟩) (fun _ _ h => h)
    obtain ⟨at2, H₇⟩ := H₇'.ex
    obtain ⟨tc2, H₇⟩ := H₇.ex
    obtain ⟨T7, H₇⟩ := H₇.ex
    obtain ⟨⟨g1, g2, g3, g4⟩, H₇⟩ := H₇.and
    refine (run_notes (Q := fun w => Ext Vn W₂ w) (by omega) (by omega) (by simp) (fun i hi => by simp at hi) huS (fun k => by have := f3 k; omega) H₇).bind fun m₈ T₈ H₈ => ?_
    obtain ⟨Sh₈, H₈⟩ := H₈
    have hD : ∀ Wx, ((notesT Wx us L).fin () us.length []).E = flat L L.length := fun Wx => (fin_ref (n := us.length) hul.symm (fun k hk => by simp at hk)).trans (refRun_flat L)
    obtain ⟨D, hDD⟩ : ∃ D, D = flat L L.length := ⟨_, rfl⟩
    have H₈' := H₈.mono (K' := fun g w => ∃ a c, g = G ((base 4).at (Act.put ⟨T7, []⟩ ((opsO5[2]?).bind (·.dst)) (.tuple #[.slice a D.length c, .int .i64 0])) (.inRegion opsO5 [3, 4, 5, 6, 7] :: .code (rt (rt restO)) :: [])) [] ∧ (EvRow w a D ∧ Keep W₂ w ∧ ShOk Sh₈ w)) (fun g w h => by
      obtain ⟨Wx, u, rfl, _, hkW, hk, hsh, hrow⟩ := h
      rw [hD, ← hDD] at hrow
      obtain ⟨a, c, rfl, h2⟩ := own_evrow hrow
      exact ⟨a, c, rfl, h2, (keep_of hkW).trans hk, hsh⟩) (fun _ _ h => h)
    obtain ⟨ad, H₈⟩ := H₈'.ex
    obtain ⟨cd, H₈⟩ := H₈.ex
    obtain ⟨W₃, ⟨ev3, kp3, sh3⟩, H₈⟩ := H₈.anchor
    have k13 := kp2.trans kp3
    have kW3 : Keep W W₃ := kW1.trans k13
    have ev2' := evrow_kp kp3 ev2
    have hus3 := vrow_kp kp3 hus2
    have huk3 : ∀ k, ∃ a c, slK us k = .slice a (Sk L k).length c ∧ Nts a (Sk L k) W₃ := fun k => by
      obtain ⟨a, c, h1, h2⟩ := huk1 k
      exact ⟨a, c, h1, nts_kp k13 h2⟩
    have hEl : E.length ≤ 300 := by rw [hEE]; exact rrE_len f1 f2 f3
    have hDl : D.length ≤ 300 := by rw [hDD, ← refRun_flat]; exact rrE_len (by simp) f2 f3
    obtain ⟨B, hB1, hB2, hB3⟩ := refRun_repl (L := L) (ps := P) hPx
    rw [← hEE] at hB1
    -- to the loops
    refine (H₈.walk gone_stb fun g w hK => ⟨60, by
      obtain ⟨rfl, hK⟩ := hK
      exact o_mid2 (mn := (0 == 0)) (Q := fun w => Ext Vn W₃ w) (fun _ _ h r => h.trans r) w hK T7 g1 g2 g3 g4⟩).bind fun m₉ T₉ H₉ => ?_
    obtain ⟨T9, H₉⟩ := H₉.ex
    obtain ⟨⟨i1, i2, i3, i4, i5, i6⟩, H₉⟩ := H₉.and
    have fin : ∀ m T, Held Try.prog (Cx0 Sh₈) Vn 0 0 (1 + us.length + us.length) Gone (fun g w => ∃ T', (T'.size = 159 ∧ T'[8]? = some (.slice ad D.length cd) ∧ T'[11]? = some (.int .i64 D.length)) ∧ g = G (fOr T' (.code lastO :: [])) [] ∧ Ext Vn W₃ w) m T →
        Lands Try.prog m T (fun m' T' => ∃ Sh γ, Held Try.prog (Cx0 Sh) Vn 0 0 γ Gone (fun g w => ∃ T' k, T'[4]? = some (.bool true) ∧ g = G { fOr T' k with mode := .returning } [] ∧ Keep W w) m' T') := fun m T H => by
      obtain ⟨Ta, H⟩ := H.ex
      obtain ⟨⟨j1, j2, j3⟩, H⟩ := H.and
      refine (H.walk gone_stb fun g w hK => ⟨20, by
        obtain ⟨rfl, hK⟩ := hK
        exact o_aw (mn := (0 == 0)) (Q := fun w => Ext Vn W₃ w) (fun _ _ h r => h.trans r) w hK Ta j1 j2 j3⟩).bind fun m' T' H => ?_
      obtain ⟨Tb, H⟩ := H.ex
      obtain ⟨⟨l1, l2, l3⟩, H⟩ := H.and
      refine (awake_call (Q := fun w => Ext Vn W₃ w) (by omega) (b₀ := base 4) (a₀ := ⟨Tb, []⟩) (ops := opsO9) (j := 0) (rest := [1, 2, 3, 4, 5, 6, 7]) (kk := .code .ret :: []) (cs := []) (H.mono (fun g w h => ⟨h.1, pre_ext sh3 h.2, h.2⟩) (fun _ _ h => h))).bind fun m₈ T₈ H => ?_
      obtain ⟨Sh₉, H⟩ := H
      have H' := H.mono (K' := fun g w => g = G ((base 4).at (Act.put ⟨Tb, []⟩ ((opsO9[0]?).bind (·.dst)) (.bool true)) (.inRegion opsO9 [1, 2, 3, 4, 5, 6, 7] :: .code .ret :: [])) [] ∧ Keep W w) (fun g w h => by
        obtain ⟨Wx, h1, h2, h3, h4⟩ := h
        exact ⟨h1, kW3.trans ((keep_of h2).trans h3)⟩) (fun _ _ h => h)
      exact (H'.walk gone_stb fun g w hK => ⟨20, by
        obtain ⟨rfl, hK⟩ := hK
        exact o_out (mn := (0 == 0)) (Q := fun w => Keep W w) (fun _ _ h r => h.ext r) w hK Tb l1 l2 l3⟩).mono fun m' T' H => ⟨_, _, H⟩
    have trs : ∀ {w w'}, Ext Vn W₃ w → Ext Vn w w' → Ext Vn W₃ w' := fun h r => h.trans r
    by_cases hn0 : L.length ≤ 0
    · -- no tasks
      have hL0 : L = [] := List.eq_nil_of_length_eq_zero (by omega)
      have hP0 : P = [] := List.eq_nil_iff_forall_not_mem.2 fun x hx => by have := hPx x hx; omega
      have hE0 : E.length ≤ 0 := by rw [hEE, hL0, hP0]; simp [refRun]
      have hD0 : D.length ≤ 0 := by rw [hDD, hL0]; simp [flat]
      obtain ⟨n1, p1⟩ := c_o1e (Sh := Sh₈) (W := W₃) (main := (0 == 0)) (al := al) (ad := ad) (lcap := lcap) (dc := cd) (sE := .slice ae E.length ce) hn0 hD0
      obtain ⟨n2, p2⟩ := c_o2e (Sh := Sh₈) (W := W₃) (main := (0 == 0)) (al := al) (ae := ae) (n := L.length) (lcap := lcap) (ec := ce) (sD := .slice ad D.length cd) (sK := .int .i64 D.length) hE0
      obtain ⟨n3, p3⟩ := c_o3e (Sh := Sh₈) (W := W₃) (main := (0 == 0)) (al := al) (lcap := lcap) (sD := .slice ad D.length cd) (sK := .int .i64 D.length) hn0
      refine (H₉.walk gone_stb fun g w hK => ⟨n1 + 1, by
        obtain ⟨rfl, hK⟩ := hK
        rw [loopsO_eq]
        exact goes_part (fun a w w' h r => by
          obtain ⟨T, h1, h2, h3, h4, h5, h6, h7⟩ := h
          exact ⟨T, h1, h2, h3, h4, h5, h6, trs h7 r⟩) (fun w' hr => p1 _ T9 w' i1 i2 i3 i4 i5 i6 (trs hK hr))⟩).bind fun mA TA HA => ?_
      have HA' := HA.mono (K' := fun g w => ∃ T', (T'.size = 159 ∧ T'[1]? = some (.slice al L.length lcap) ∧ T'[6]? = some (.slice ae E.length ce) ∧ T'[8]? = some (.slice ad D.length cd) ∧ T'[11]? = some (.int .i64 D.length)) ∧ g = G (fOr T' (.code (rt loopsO) :: [])) [] ∧ Ext Vn W₃ w) (fun g w h => by
        obtain ⟨a', h0, T, rfl, h2, h3, h4, h5, h6, h7⟩ := h
        exact ⟨T, ⟨h2, h3, h4, h5, h6⟩, h0, h7⟩) (fun _ _ h => h)
      obtain ⟨TB, HB⟩ := HA'.ex
      obtain ⟨⟨q1, q2, q3, q4, q5⟩, HB⟩ := HB.and
      refine (HB.walk gone_stb fun g w hK => ⟨n2 + 1, by
        obtain ⟨rfl, hK⟩ := hK
        rw [loopsO_eq2]
        exact goes_part (fun a w w' h r => by
          obtain ⟨T, h1, h2, h3, h4, h5, h7⟩ := h
          exact ⟨T, h1, h2, h3, h4, h5, trs h7 r⟩) (fun w' hr => p2 _ TB w' q1 q2 q3 q4 q5 (trs hK hr))⟩).bind fun mC TC HC => ?_
      have HC' := HC.mono (K' := fun g w => ∃ T', (T'.size = 159 ∧ T'[1]? = some (.slice al L.length lcap) ∧ T'[8]? = some (.slice ad D.length cd) ∧ T'[11]? = some (.int .i64 D.length)) ∧ g = G (fOr T' (.code (rt (rt loopsO)) :: [])) [] ∧ Ext Vn W₃ w) (fun g w h => by
        obtain ⟨a', h0, T, rfl, h2, h3, h4, h5, h7⟩ := h
        exact ⟨T, ⟨h2, h3, h4, h5⟩, h0, h7⟩) (fun _ _ h => h)
      obtain ⟨TD, HD⟩ := HC'.ex
      obtain ⟨⟨r1, r2, r3, r4⟩, HD⟩ := HD.and
      refine (HD.walk gone_stb fun g w hK => ⟨n3 + 1, by
        obtain ⟨rfl, hK⟩ := hK
        rw [loopsO_eq3]
        exact goes_part (fun a w w' h r => by
          obtain ⟨T, h1, h2, h3, h4, h7⟩ := h
          exact ⟨T, h1, h2, h3, h4, trs h7 r⟩) (fun w' hr => p3 _ TD w' r1 r2 r3 r4 (trs hK hr))⟩).bind fun mE TE HE => ?_
      exact fin _ _ (HE.mono (fun g w h => by
        obtain ⟨a', h0, T, rfl, h2, h3, h4, h7⟩ := h
        exact ⟨T, ⟨h2, h3, h4⟩, h0, h7⟩) (fun _ _ h => h))
    · obtain ⟨lp, lo, hal, hrow⟩ := hus3.resolve_left (fun e => by rw [e] at hul; simp at hul; omega)
      obtain ⟨n1, p1⟩ := c_o1 (main := (0 == 0)) sh3 (ad := ad) (lcap := lcap) (dc := cd) (sE := .slice ae E.length ce) hal hrow (by omega) (by omega) f2 huk3 f3 (n := L.length) (dn := D.length) (by rw [← hDD]; exact ev3) (by rw [hDD]; exact Nat.le_refl _) (by rw [hDD]; exact Nat.le_refl _) (by omega)
      refine (H₉.walk gone_stb fun g w hK => ⟨n1 + 1, by
        obtain ⟨rfl, hK⟩ := hK
        rw [loopsO_eq]
        exact goes_part (fun a w w' h r => by
          obtain ⟨T, u, h1, h2, h3, h4, h5, h6, h7, h8, h9⟩ := h
          exact ⟨T, u, h1, h2, h3, h4, h5, h6, h7, trs h8 r, ownsRow_ext h9 r fun _ _ => id⟩) (fun w' hr => p1 _ T9 w' i1 i2 i3 i4 i5 i6 (trs hK hr))⟩).bind fun mA TA HA => ?_
      have HA' := HA.mono (K' := fun g w => ∃ gb cap T', (T'.size = 159 ∧ T'[1]? = some (.slice al L.length lcap) ∧ T'[6]? = some (.slice ae E.length ce) ∧ T'[8]? = some (.slice ad D.length cd) ∧ T'[10]? = some (.slice (some ⟨gb, 0, none⟩) L.length cap) ∧ T'[11]? = some (.int .i64 D.length) ∧ L.length ≤ cap) ∧ g = G (fOr T' (.code (rt loopsO) :: [])) [] ∧ RG W₃ gb (List.replicate L.length 0) w) (fun g w h => by
        obtain ⟨a', h0, T, u, rfl, h2, h3, h4, h5, h6, h7, h8, h9⟩ := h
        obtain ⟨gb, cap, rfl, hc, hg⟩ := rg_of h8 h9 (by omega)
        exact ⟨gb, cap, T, ⟨h2, h3, h4, h5, h6, h7, hc⟩, h0, hg⟩) (fun _ _ h => h)
      obtain ⟨gb, HB⟩ := HA'.ex
      obtain ⟨cap, HB⟩ := HB.ex
      obtain ⟨TB, HB⟩ := HB.ex
      obtain ⟨⟨q1, q2, q3, q4, q5, q6, q7⟩, HB⟩ := HB.and
      rw [hal] at q2
      obtain ⟨n2, p2⟩ := c_o2 (main := (0 == 0)) sh3 (gb := gb) (cap := cap) (n := L.length) (lcap := lcap) (ec := ce) (B := B) (sD := .slice ad D.length cd) (sK := .int .i64 D.length) hrow (by omega) (by omega) (by omega) (by omega) f2 huk3 f3 ev2' (by omega) q7
      obtain ⟨n3, p3⟩ := c_o3 (main := (0 == 0)) sh3 (gb := gb) (cap := cap) (n := L.length) (lcap := lcap) (B := B) (sD := .slice ad D.length cd) (sK := .int .i64 D.length) hrow (by omega) (by omega) f2 huk3 f3 (fun t ht => by
        have := hB3 t ht
        simp only [List.getD_eq_getElem?_getD, List.getElem?_eq_getElem (show t < B.length by omega), Option.getD_some] at this
        rw [List.getElem?_eq_getElem (show t < B.length by omega), this]) q7
      refine (HB.walk gone_stb fun g w hK => ⟨n2 + 1, by
        obtain ⟨rfl, hK⟩ := hK
        rw [loopsO_eq2]
        exact goes_part (fun a w w' h r => by
          obtain ⟨T, h1, h2, h3, h4, h5, h6, h7⟩ := h
          exact ⟨T, h1, h2, h3, h4, h5, h6, h7.rl r⟩) (fun w' hr => p2 _ TB _ w' q1 q2 q3 q4 q5 q6 (by simp) hB1 (hK.rl hr))⟩).bind fun mC TC HC => ?_
      have HC' := HC.mono (K' := fun g w => ∃ T', (T'.size = 159 ∧ T'[1]? = some (.slice (some ⟨lp, lo, none⟩) L.length lcap) ∧ T'[8]? = some (.slice ad D.length cd) ∧ T'[10]? = some (.slice (some ⟨gb, 0, none⟩) L.length cap) ∧ T'[11]? = some (.int .i64 D.length)) ∧ g = G (fOr T' (.code (rt (rt loopsO)) :: [])) [] ∧ RG W₃ gb B w) (fun g w h => by
        obtain ⟨a', h0, T, rfl, h2, h3, h4, h5, h6, h7⟩ := h
        exact ⟨T, ⟨h2, h3, h4, h5, h6⟩, h0, h7⟩) (fun _ _ h => h)
      obtain ⟨TD, HD⟩ := HC'.ex
      obtain ⟨⟨r1, r2, r3, r4, r5⟩, HD⟩ := HD.and
      refine (HD.walk gone_stb fun g w hK => ⟨n3 + 1, by
        obtain ⟨rfl, hK⟩ := hK
        rw [loopsO_eq3]
        exact goes_part (fun a w w' h r => by
          obtain ⟨T, h1, h2, h3, h4, h7⟩ := h
          exact ⟨T, h1, h2, h3, h4, trs h7 r⟩) (fun w' hr => p3 _ TD w' r1 r2 r3 r4 r5 (hK.rl hr))⟩).bind fun mE TE HE => ?_
      exact fin _ _ (HE.mono (fun g w h => by
        obtain ⟨a', h0, T, rfl, h2, h3, h4, h7⟩ := h
        exact ⟨T, ⟨h2, h3, h4⟩, h0, h7⟩) (fun _ _ h => h))
#print axioms law_orders
end
end Go.Proofs.Ytggfcdhkgldbfaa
