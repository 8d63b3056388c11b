/-
  PROVED HERE: the law ordinallaw02.RowOrders answers true for every input and leaves its arguments as they were; the card ties the listed tables to the program's text.
-/
import Derived.Test.YtkoajdbijlpgaaaDoorOpen
import Derived.Test.YtkoajdbijlpgaaaDoorOrders
import Derived.Test.YtkoajdbijlpgaaaDoorCards
import Derived.Test.YtkoajdbijlpgaaaDoorTie
import Derived.MakeChecks
import Derived.WalkSmall
namespace Go.Proofs.YtkoajdbijlpgaaaDoor
open Go.ChangeShapes Go.WideShapes Go.ChangeAt Go.RowKit Go.Deep

theorem own : ownKnob Tryd.prog.godebug = none := by kernel_rfl
theorem laidOut : laidOutB Tryd.prog = true := by kernel_rfl
theorem gTab : Tryd.prog.globalNamed "internal/strconv.uint64pow10" = some 1 := by kernel_rfl
theorem gTabType : (Tryd.prog.globals[1]?).map (·.type) = some 143 := by kernel_rfl
theorem cellsU64 : Tryd.prog.cellsOf 102 = 1 := by kernel_rfl
theorem cellsTab : Tryd.prog.cellsOf 143 = 20 := by kernel_rfl
theorem tabData_eq : (Rows.laid_internal_strconv_uint64pow10 : DataW Unit) = Lib.tabData .u64 Lib.pow10Tab := by kernel_rfl

theorem laidVars_reads {P : Program} {w : World} : ∀ {l : List (String × DataW Unit)} {ps : List MemPlace}, DataW.LaidVars P w l ps → ∀ n d, (n, d) ∈ l →
    ∃ g t cs fuel p, P.globalNamed n = some g ∧ (P.globals[g]?).map (·.type) = some t ∧ w.var? P n = some cs ∧ DataW.trod (fun _ => ()) P w 0 (fun _ => true) false fuel t cs.toList = some (d, p)
  | [], _, _, _, _, hm => by cases hm
  | (n', d') :: r, ps, h, n, d, hm => by
    obtain ⟨g, t, cs, fuel, p, q, h1, h2, h3, h4, h5, _⟩ := h
    rcases List.mem_cons.1 hm with e | e
    · cases e
      exact ⟨g, t, cs, fuel, p, h1, h2, h3, h4⟩
    · exact laidVars_reads h5 n d e

/-- What a row's list gives: the table of powers of ten. -/
theorem tab_of_laid {l : List (String × DataW Unit)} {W : World} (hm : ("internal/strconv.uint64pow10", Rows.laid_internal_strconv_uint64pow10) ∈ l) (hp : (l.all fun x => x.2.handleName?.isNone) = true) (h : laidMetH Tryd.prog l W) : Tab W := by
  rw [MakeChecks.laidMetH_plain _ _ _ hp] at h
  obtain ⟨ps, hv, _⟩ := h
  obtain ⟨g, t, cs, fuel, p, h1, h2, h3, h4⟩ := laidVars_reads hv _ _ hm
  obtain rfl := Option.some.inj (gTab.symm.trans h1)
  obtain rfl := Option.some.inj (gTabType.symm.trans h2)
  rw [tabData_eq] at h4
  have hcs := Lib.cells_of_tab Tryd.underlying143 Tryd.underlying102 cellsU64 cellsTab h4
  have hlt : 1 < W.heap.size := by
    unfold World.var? at h3
    rw [gTab] at h3
    simp only [Option.bind_some] at h3
    cases hq : W.heap[1]? with
    | none => rw [hq] at h3; cases h3
    | some o => exact (Array.getElem?_eq_some_iff.1 hq).1
  intro w' hb
  have h3' := var?_below hb gTab hlt h3
  unfold Lib.TabIs
  rw [h3', ← hcs]

theorem okWide_array {P : Program} {w : World} {r : Reach} {base : Nat} {t : TypeId} {v : Value} {n : Nat} {e : TypeId} (ht : P.underlying t = some (.array n e)) (h : Value.okWide P w r base t v) : ∃ cs, v = .agg cs ∧ cs.size = P.cellsOf t := by
  simp only [Value.okWide, ht] at h
  obtain ⟨cs, h1, h2, _⟩ := h
  exact ⟨cs, h1, h2⟩

theorem slice_of {n : Nat} {H : Type} {enc : TypeId × Value → H} {w : World} {base : Nat} {sp : Nat → Bool} {held : Bool} {t e : TypeId} {v : Value} {x : DataW H × List MemPlace} (ht : Tryd.prog.underlying t = some (.slice e))
    (h : DataW.trod enc Tryd.prog w base sp held n t [v] = some x) : ∃ a len cap, v = .slice a len cap := by
  rcases open_slice ht h with ⟨h0, _⟩ | ⟨a', len', cap', m, n, D, Pl, hcs, _⟩
  · injection h0 with h0 _; exact ⟨_, _, _, h0⟩
  · injection hcs with h0 _; exact ⟨_, _, _, h0⟩

namespace rowOrders

set_option maxRecDepth 100000 in
theorem contract (H : Type) (enc : TypeId × Value → H) (W : World) (base : Nat) (args : Array Value) (ds gs : List (DataW H)) (before : List MemPlace)
    (hval : ∀ (j : Nat) t v, Tryd.f3.params[j]? = some t → args[j]? = some v → Value.okWide Tryd.prog W .any base t v)
    (hW : DataW.Whole enc Tryd.prog Tryd.f3.params.toList Rows.rowOrdersSpec.vars false W args.toList ds gs before) (hL : laidMetH Tryd.prog Rows.rowOrdersRow.laid W) :
    Calls Tryd.prog 3 args W fun e W' => ∃ v, e = .returned v ∧ Rows.rowOrdersSpec.post enc Tryd.prog Tryd.f3 false true false false W args v W' := by
  have hW' := hW
  have ht : Tab W := tab_of_laid (by simp [Rows.rowOrdersRow]) (by kernel_rfl) hL
  obtain ⟨p, q, hA0, hV, rfl, hfz, hnd⟩ := hW
  have hA : DataW.TrodAll enc Tryd.prog W 0 (fun _ => true) true Tryd.f3.params.toList args.toList ds p := hA0
  rw [Tryd.params3] at hA hval
  obtain ⟨v0, vs0, d0, ds0, p0, q0, hargs, rfl, rfl, h0, r0⟩ := trodAll_cons hA
  obtain ⟨v1, vs1, d1, ds1, p1, q1, rfl, rfl, rfl, h1, r1⟩ := trodAll_cons r0
  obtain ⟨rfl, rfl, rfl⟩ := trodAll_nil r1
  obtain rfl : args = #[v0, v1] := by cases args; simp_all
  obtain ⟨rfl, rfl⟩ := trodVars_none hV
  obtain ⟨cs, rfl, hcs⟩ := okWide_array Tryd.underlying24 (hval 0 24 v0 rfl rfl)
  obtain ⟨n0, e0⟩ := h0
  have hc24 : Tryd.prog.cellsOf 24 = 3 := by kernel_rfl
  have hc23 : Tryd.prog.cellsOf 23 = 1 := by kernel_rfl
  rw [hc24] at hcs
  obtain ⟨cs⟩ := cs
  match cs, hcs with
  | [a0, a1, a2], _ =>
    obtain ⟨xs, m, _, _, _, hxl, hf⟩ := DataW.trod_array Tryd.underlying24 e0
    match xs, hxl with
    | [y0, y1, y2], _ =>
      have g0 := hf 0 (by omega)
      have g1 := hf 1 (by omega)
      have g2 := hf 2 (by omega)
      simp only [Value.cells, hc23, List.drop_zero, Nat.zero_mul, Nat.one_mul, List.drop_succ_cons, List.take_succ_cons, List.take_zero, List.getElem?_cons_zero, List.getElem?_cons_succ] at g0 g1 g2
      obtain ⟨A0, a, c0, rfl, _, ha, _⟩ := open_row Tryd.underlying23 (slice_of Tryd.underlying23 g0) (v := a0) (by obtain ⟨_, _, _, rfl⟩ := slice_of Tryd.underlying23 g0; exact g0)
      obtain ⟨A1, b, c1, rfl, _, hb, _⟩ := open_row Tryd.underlying23 (slice_of Tryd.underlying23 g1) (v := a1) (by obtain ⟨_, _, _, rfl⟩ := slice_of Tryd.underlying23 g1; exact g1)
      obtain ⟨A2, c, c2, rfl, _, hc, _⟩ := open_row Tryd.underlying23 (slice_of Tryd.underlying23 g2) (v := a2) (by obtain ⟨_, _, _, rfl⟩ := slice_of Tryd.underlying23 g2; exact g2)
      obtain ⟨n1, e1⟩ := h1
      obtain ⟨D, d, cd, rfl, _, hd⟩ := open_bools Tryd.underlying25 (okWide_slice Tryd.underlying25 (hval 1 25 v1 rfl rfl)) e1
      refine (law_orders A0 A1 A2 D c0 c1 c2 cd a b c d W ha hb hc hd ht).mono fun e W' ⟨he, hbel⟩ => ?_
      subst he
      exact ⟨_, rfl, law_close laidOut Tryd.underlying4 rfl rfl (by decide +kernel) rfl hW' hbel⟩
/-- A start for the witness: the settled world, the three tables as their initialisers lay them. -/
def cellsIn : DataW Unit → Array Value
  | .agg l => (l.map fun | .lit (.int k n) => Value.int k n | _ => undef).toArray
  | _ => #[]
def layIn (d : DataW Unit) : Obj → Obj
  | .cells _ t frozen => .cells (cellsIn d) t frozen
  | o => o
noncomputable def laidWorld (os : Os) : World :=
  { World.holding Tryd.prog os ⟨#[], #[], []⟩ with heap := (((World.holding Tryd.prog os ⟨#[], #[], []⟩).heap.modify 1 (layIn Rows.laid_internal_strconv_uint64pow10)).modify 4 (layIn Rows.laid_math_bits_deBruijn32tab)).modify 5 (layIn Rows.laid_math_bits_deBruijn64tab) }

def wargs : Array Value := #[.agg #[.slice none 0 0, .slice none 0 0, .slice none 0 0], .slice none 0 0]

theorem laid_met (os : Os) : laidMet Tryd.prog Rows.rowOrdersRow.laid ((laidWorld os).forCall (fun _ _ => 0) ⟨#[], wargs, []⟩).memory :=
  laidMet_of_run' 8 (by kernel_rfl) (by kernel_rfl)
theorem laid_metH (os : Os) : laidMetH Tryd.prog Rows.rowOrdersRow.laid ((laidWorld os).forCall (fun _ _ => 0) ⟨#[], wargs, []⟩).memory := by
  rw [MakeChecks.laidMetH_plain _ _ _ (by kernel_rfl)]; exact laid_met os
theorem reads (os : Os) {H : Type} (enc : TypeId × Value → H) : ∃ places, DataW.whole enc Tryd.prog ((laidWorld os).forCall (fun _ _ => 0) ⟨#[], wargs, []⟩).memory Tryd.f3.params.toList Rows.rowOrdersSpec.vars false wargs.toList 8 = some ([.agg [.nil, .nil, .nil], .nil], [], places) :=
  ⟨[], by kernel_rfl⟩

set_option maxRecDepth 100000 in
theorem lifted (os : Os) (started : os.Started) (H : Type) (enc : TypeId × Value → H) (F : Stop.Interp) :
    ReturnsInHanded {} Tryd.checked os 3 .any ((OpenSpec.ofChange Rows.rowOrdersSpec).preRow enc Tryd.prog Tryd.f3 Rows.rowOrdersRow.domain false Rows.rowOrdersRow.laid) (((OpenSpec.ofChange Rows.rowOrdersSpec).at F).post enc Tryd.prog Tryd.f3 false true false false) := by
  obtain ⟨places, hx⟩ := reads os enc
  refine returnsInHanded_of_row (C := Tryd.checked) (s := OpenSpec.ofChange Rows.rowOrdersSpec) own started (by kernel_rfl) Tryd.func3
    (witness_row_at (enc := enc) (C := Tryd.checked) false (laidWorld os) wargs rfl (by kernel_rfl) (by kernel_rfl) (by kernel_rfl)
      (OpenSpec.preRow_of_cond 8 hx (by kernel_rfl) (fun k hk => by cases hk) (by kernel_rfl) (laid_metH os))) ?_
  intro W base args ds gs before hval hW _ _ _ hL _ _
  exact contract H enc W base args ds gs before hval hW hL

theorem said : Rows.RowOrdersSaid :=
  OpenClaim.holds_of_cond 3 Tryd.f3 rfl rfl rfl rfl rfl rfl rfl ⟨rfl, rfl, rfl, rfl, rfl⟩ rfl rfl rfl rfl rfl (by kernel_rfl) Tryd.func3 (by kernel_rfl)
    (of_decide_eq_true (by kernel_rfl)) (by unfold Func.isWrapper; first | (rw [if_pos (by decide +kernel)]; kernel_rfl) | (rw [if_neg (by decide +kernel)]; exact ⟨rfl, rfl⟩))
    (fun os started H enc _ F => by rw [OpenClaim.pre_eq_preRow]; exact lifted os started H enc F)

theorem plain (f : FuncId) (fn : Func) (hf : Tryd.pinned.checked.prog.funcNamed Rows.rowOrdersRow.func = some f) (hfn : Tryd.pinned.checked.prog.funcs[f]? = some fn) :
    true = Tryd.pinned.checked.prog.looks [] ∧ ∀ (j : Nat) t, fn.params[j]? = some t → Tryd.pinned.checked.prog.wantsStandIn t = false := by
  obtain rfl : f = 3 := Option.some.inj ((show Tryd.prog.funcNamed Rows.rowOrdersRow.func = some 3 by kernel_rfl).symm.trans hf) |>.symm
  obtain rfl : fn = Tryd.f3 := (Option.some.inj (Tryd.func3.symm.trans hfn)).symm
  refine ⟨by kernel_rfl, fun j t ht => ?_⟩
  have hall : (Tryd.f3.params.toList.all fun t => Tryd.prog.wantsStandIn t == false) = true := by kernel_rfl
  have hm := List.all_eq_true.1 hall t (by rw [← Array.mem_def]; exact Array.mem_of_getElem? ht)
  exact (show Tryd.prog.wantsStandIn t = false by simpa using hm)

/-- The card. -/
theorem card : Rows.RowOrdersCardSaid :=
  Claim7.holds_tied_plain_at .later [] _ _ _ _ said (fun _ h => by cases h) (by kernel_rfl) (fun _ h => by cases h) rowOrders_row_tie rfl ⟨rfl, rfl⟩ (by kernel_rfl) rfl plain (by kernel_rfl)
end rowOrders
end Go.Proofs.YtkoajdbijlpgaaaDoor
