/-
  PROVED HERE: the law ordinallaw57.SchedShares answers true for every input, on every schedule and without a race, and leaves its arguments as they were; the card ties the listed package-level variables to the program's text.
-/
import Derived.Test.YtggfcdhkgldbfaaDoorS43
import Derived.Test.YtggfcdhkgldbfaaDoorS44
import Derived.Test.YtggfcdhkgldbfaaDoorCards
import Derived.Test.YtggfcdhkgldbfaaDoorTie
import Derived.Deep.DeepHandedRow
import Derived.Laws.IdiomArrays
import Derived.MakeChecks
import Derived.WalkSmall
namespace Go.Proofs.YtggfcdhkgldbfaaDoor
open Go Go.ChangeShapes Go.WideShapes Go.ChangeAt Go.RowKit Cw

namespace schedShares
theorem own : ownKnob Tryd.prog.godebug = none := by kernel_rfl
theorem laidOut : laidOutB Tryd.prog = true := by kernel_rfl
section
open Go.Conc
/-- A row that says 'leaving' and lists variables: from one good run at every start. -/
theorem leaving_of_row {H : Type} {enc : TypeId × Value → H} {a : Assume} {C : Checked} {os : Os} {f : FuncId} {fn : Func} {s : OpenSpec} {F : Stop.Interp} {conds : List PathCond} {apart fresh handsOn again : Bool} {laid : List (String × DataW Unit)}
    (own : ownKnob C.prog.godebug = none) (started : os.Started) (hfn : C.prog.funcs[f]? = some fn)
    (witness : ∃ (w : World) (tape : Tape) (i : Input), w.os = os ∧ (w.forCall tape i).Shaped C.prog ∧ i.vars = [] ∧ Input.okWide C.prog (w.forCall tape i) .any w.heap.size f i ∧
      s.preRow enc C.prog fn conds apart laid (w.forCall tape i).memory i.args ∧ a.holds C.prog (lone (Frame.enter C.prog f i.args .normal) [] (w.forCall tape i)))
    (runs : ∀ (W : World) (base : Nat) (args : Array Value) (ds gs : List (DataW H)) (before : List MemPlace),
      (∀ (j : Nat) t v, fn.params[j]? = some t → args[j]? = some v → Value.okWide C.prog W .any base t v) →
      DataW.Whole enc C.prog fn.params.toList s.vars apart W args.toList ds gs before →
      ∃ M last o w' t', runNT C.prog (M + 1) (solo (G (Frame.enter C.prog f args .normal) []) W) #[] = (.ended o w', t') ∧ runN C.prog M (solo (G (Frame.enter C.prog f args .normal) []) W) = .next last ∧
        step C.prog last = .ended o w' ∧ Conc.Good C.prog (fun v W' => (s.at F).post enc C.prog fn apart fresh handsOn again W args v W') last o w' t') :
    ReturnsInLeavingWide a C os f .any (s.preRow enc C.prog fn conds apart laid) ((s.at F).post enc C.prog fn apart fresh handsOn again) := by
  refine returnsInLeavingWide_of_good own started witness fun w tape i _ _ _ hok hpre _ => ?_
  obtain ⟨_, _, _, fn', hfn', _, _, _, _, hval⟩ := hok
  cases Option.some.inj (hfn'.symm.trans hfn)
  obtain ⟨⟨hp, _⟩, _⟩ := hpre
  obtain ⟨ds, gs, before, hw, _, _⟩ := OpenSpec.pre_parts hp
  obtain ⟨M, last, o, w', t', h1, h2, h3, h4⟩ := runs (w.forCall tape i) w.heap.size i.args ds gs before hval (DataW.Whole.of_heap (w' := w.forCall tape i) (by rfl) hw)
  exact ⟨M, last, o, w', t', h1, h2, h3, h4.mono fun v hp => ChangeSpec.post_blind hp⟩
end
theorem byte_of {n : Int} (hw : (Lit.int .u8 n).wf = true) : ∃ m : Nat, n = m ∧ m < 256 := by
  simp [Lit.wf, IntKind.min, IntKind.max, IntKind.signed, IntKind.bits] at hw
  exact ⟨n.toNat, by rw [Int.toNat_of_nonneg (by omega)], by omega⟩
theorem okWide_arr {P : Program} {w : World} {r : Reach} {base : Nat} {t : TypeId} {v : Value} {n : Nat} {e : TypeId} (ht : P.underlying t = some (.array n e)) (h : Value.okWide P w r base t v) : ∃ cs, v = .agg cs ∧ cs.size = P.cellsOf t := by
  simp only [Value.okWide, ht] at h
  obtain ⟨cs, h1, h2, _⟩ := h
  exact ⟨cs, h1, h2⟩
section
variable {H : Type} {enc : TypeId × Value → H} {w : World} {base : Nat} {sp : Nat → Bool} {held : Bool}
set_option maxRecDepth 100000 in
theorem open_three {r : Reach} {b0 : Nat} {v : Value} {d : DataW H} {ps : List MemPlace} (hval : Value.okWide Tryd.prog w r b0 23 v) (h : DataW.Trod enc Tryd.prog w base sp held 23 v d ps) : ∃ a : Nat → Nat, (∀ k, a k < 256) ∧ v = .agg (cel3 a) := by
  obtain ⟨cs, rfl, hs⟩ := okWide_arr Tryd.underlying23 hval
  have hs3 : cs.size = 3 := hs.trans (by kernel_rfl)
  obtain ⟨l⟩ := cs
  replace hs3 : l.length = 3 := hs3
  obtain _ | ⟨c0, l⟩ := l
  · simp at hs3
  obtain _ | ⟨c1, l⟩ := l
  · simp at hs3
  obtain _ | ⟨c2, l⟩ := l
  · simp at hs3
  obtain _ | ⟨c3, l⟩ := l
  rotate_left
  · simp at hs3
  obtain ⟨fuel, h⟩ := h
  have h' : DataW.trod enc Tryd.prog w base sp held fuel 23 [c0, c1, c2] = some (d, ps) := h
  obtain ⟨y0, y1, y2, n, _, t0, t1, t2⟩ := trod_array3 Tryd.underlying23 (by kernel_rfl) h'
  have one : ∀ {c : Value} {y : DataW H × List MemPlace}, DataW.trod enc Tryd.prog w base sp held n 5 [c] = some y → ∃ m : Nat, c = .int .u8 m ∧ m < 256 := fun {c y} h => by
    obtain ⟨m, e, _, hw⟩ := DataW.trod_int Tryd.underlying5 h
    injection e with e
    obtain ⟨k, rfl, hk⟩ := byte_of hw
    exact ⟨k, e, hk⟩
  obtain ⟨m0, rfl, b0⟩ := one t0
  obtain ⟨m1, rfl, b1⟩ := one t1
  obtain ⟨m2, rfl, b2⟩ := one t2
  refine ⟨fun k => if k = 0 then m0 else if k = 1 then m1 else m2, fun k => ?_, rfl⟩
  simp only
  split
  · exact b0
  · split
    · exact b1
    · exact b2
/-- A row of bytes, whatever its bulk. -/
theorem open_bytes {t : TypeId} (ht : Tryd.prog.underlying t = some (.slice 5)) {v : Value} {d : DataW H} {ps : List MemPlace} (hs : ∃ a len cap, v = .slice a len cap) (h : DataW.Trod enc Tryd.prog w base sp held t v d ps) :
    ∃ p : List Nat, U8Row w v p ∧ ∀ x ∈ p, x < 256 := by
  obtain ⟨p, h1, _, h3⟩ := open_u8row ht hs h
  exact ⟨p, h1, h3⟩
end

/-- A start for the witness: the settled world, the three tables as their initialisers lay them. -/
def cellsIn : DataW Unit → Array Value
  | .agg l => (l.map fun | .lit (.int k n) => Value.int k n | _ => undef).toArray
  | _ => #[]
def layIn (d : DataW Unit) : Obj → Obj
  | .cells _ t frozen => .cells (cellsIn d) t frozen
  | o => o
noncomputable def laidWorld (os : Os) : World :=
  { World.holding Tryd.prog os ⟨#[], #[], []⟩ with heap := (((World.holding Tryd.prog os ⟨#[], #[], []⟩).heap.modify 0 (layIn Rows.laid_internal_strconv_uint64pow10)).modify 1 (layIn Rows.laid_math_bits_deBruijn32tab)).modify 2 (layIn Rows.laid_math_bits_deBruijn64tab) }
def wargs : Array Value := #[.slice none 0 0, .agg #[.int .u8 0, .int .u8 0, .int .u8 0]]
theorem laid_metH (os : Os) : laidMetH Tryd.prog Rows.schedSharesRow.laid ((laidWorld os).forCall (fun _ _ => 0) ⟨#[], wargs, []⟩).memory := by
  rw [MakeChecks.laidMetH_plain _ _ _ (by kernel_rfl)]
  exact laidMet_of_run' 8 (by kernel_rfl) (by kernel_rfl)
theorem reads (os : Os) {H : Type} (enc : TypeId × Value → H) : ∃ places, DataW.whole enc Tryd.prog ((laidWorld os).forCall (fun _ _ => 0) ⟨#[], wargs, []⟩).memory Tryd.f3.params.toList Rows.schedSharesSpec.vars false wargs.toList 8 = some ([.nil, .agg [.lit (.int .u8 0), .lit (.int .u8 0), .lit (.int .u8 0)]], [], places) :=
  ⟨[], by kernel_rfl⟩

set_option maxRecDepth 100000 in
theorem lifted (os : Os) (started : os.Started) (H : Type) (enc : TypeId × Value → H) (F : Stop.Interp) :
    ReturnsInLeavingWide {} Tryd.checked os 3 .any ((OpenSpec.ofChange Rows.schedSharesSpec).preRow enc Tryd.prog Tryd.f3 Rows.schedSharesRow.domain false Rows.schedSharesRow.laid) (((OpenSpec.ofChange Rows.schedSharesSpec).at F).post enc Tryd.prog Tryd.f3 false true false false) := by
  obtain ⟨places, hx⟩ := reads os enc
  refine leaving_of_row (C := Tryd.checked) (s := OpenSpec.ofChange Rows.schedSharesSpec) own started Tryd.func3
    (witness_row_at (enc := enc) (C := Tryd.checked) false (laidWorld os) wargs rfl (by kernel_rfl) (by kernel_rfl) (by kernel_rfl)
      (OpenSpec.preRow_of_cond 8 hx (by kernel_rfl) (fun k hk => by cases hk) (by kernel_rfl) (laid_metH os))) ?_
  intro W base args ds gs before hval0 hW
  have hval : ∀ (j : Nat) t v, Tryd.f3.params[j]? = some t → args[j]? = some v → Value.okWide Tryd.prog W .any base t v := hval0
  have hW' := hW
  obtain ⟨p, q, hA0, hV, rfl, _, _⟩ := hW
  have hA : DataW.TrodAll enc Tryd.prog W 0 (fun _ => true) true Tryd.f3.params.toList args.toList ds p := hA0
  rw [Tryd.params3] at hA hval
  obtain ⟨v0, v1, d0, d1, p0, p1, rfl, rfl, rfl, h0, h1⟩ := trodAll_two hA
  obtain ⟨rfl, rfl⟩ := trodVars_none hV
  clear hA0
  simp only [List.append_nil] at hW'
  obtain ⟨ps, hp, hpx⟩ := open_bytes Tryd.underlying22 (okWide_slice Tryd.underlying22 (hval 0 22 v0 rfl rfl)) h0
  obtain ⟨a, ha, rfl⟩ := open_three (hval 1 23 v1 rfl rfl) h1
  clear hval0
  obtain ⟨M, last, o, w', t', r1, r2, r3, r4⟩ := law_shares W hp hpx ha
  refine ⟨M, last, o, w', t', r1, r2, r3, r4.mono fun v hF => ?_⟩
  obtain ⟨rfl, hl⟩ := hF
  exact left_close laidOut Tryd.underlying4 rfl rfl (by decide +kernel) rfl hW' hl

theorem said : Rows.SchedSharesSaid :=
  holds_leaving_cond 3 Tryd.f3 rfl rfl rfl rfl rfl rfl rfl ⟨rfl, rfl, rfl, rfl, rfl⟩ rfl rfl rfl rfl rfl (by kernel_rfl) Tryd.func3 (by kernel_rfl)
    (of_decide_eq_true (by kernel_rfl)) (by unfold Func.isWrapper; first | (rw [if_pos (by decide +kernel)]; kernel_rfl) | (rw [if_neg (by decide +kernel)]; exact ⟨rfl, rfl⟩))
    (fun os started H enc F => by rw [OpenClaim.pre_eq_preRow]; exact lifted os started H enc F)

theorem plain (f : FuncId) (fn : Func) (hf : Tryd.pinned.checked.prog.funcNamed Rows.schedSharesRow.func = some f) (hfn : Tryd.pinned.checked.prog.funcs[f]? = some fn) :
    false = Tryd.pinned.checked.prog.looks [] ∧ ∀ (j : Nat) t, fn.params[j]? = some t → Tryd.pinned.checked.prog.wantsStandIn t = false := by
  obtain rfl : f = 3 := Option.some.inj ((show Tryd.prog.funcNamed Rows.schedSharesRow.func = some 3 by kernel_rfl).symm.trans hf) |>.symm
  obtain rfl : fn = Tryd.f3 := (Option.some.inj (Tryd.func3.symm.trans hfn)).symm
  refine ⟨by kernel_rfl, fun j t ht => ?_⟩
  have hall : (Tryd.f3.params.toList.all fun t => Tryd.prog.wantsStandIn t == false) = true := by kernel_rfl
  have hm := List.all_eq_true.1 hall t (by rw [← Array.mem_def]; exact Array.mem_of_getElem? ht)
  exact (show Tryd.prog.wantsStandIn t = false by simpa using hm)

/-- A tied card of a row whose call can start goroutines. -/
theorem tied_goes {p : Pinned} {s : OpenSpec} {c : OpenClaim} (Lk : Looks) (kinds : List LaidKind) (tests : Bool) (har : Bool × String) (lk : Bool)
    (hc : c.holds p s) (hw : c.wfByText s = true) (htie : c.laidByTextAt Lk p kinds tests)
    (hst : c.start = .entering) (hnb : c.noBlocks = false ∧ c.again = false) (hm : p.checked.prog.mainIs = some (har.1, har.2.toList)) (hn : (!har.1 && har.2.isEmpty && !lk) = false)
    (hl : ∀ f fn, p.checked.prog.funcNamed c.func = some f → p.checked.prog.funcs[f]? = some fn → lk = p.checked.prog.looks [] ∧ ∀ (j : Nat) t, fn.params[j]? = some t → p.checked.prog.wantsStandIn t = false)
    (hg : true = c.goesBy p.checked.prog) :
    Claim7.holds p (.plain s) { stood := { row := c, standIns := [], harness := har, looks := lk }, kinds := [], alts := [], goes := true, laidByText := true, laidKinds := kinds, laidTests := tests, laidLooks := Lk } := by
  have h6 : Claim7.isSixth { stood := { row := c, standIns := [], harness := har, looks := lk }, kinds := [] } = false := by simpa [Claim7.isSixth] using hn
  have h := Claim7.tied_new_at Lk kinds tests (Claim7.new_of_sixth hc har lk hst hnb hm h6 hl) hw
  exact ⟨h, (fun D hD => by cases hD), htie, (fun h => by cases h), hg⟩

/-- The card. -/
theorem card : Rows.SchedSharesCardSaid :=
  tied_goes .later _ _ _ _ said (by kernel_rfl) schedShares_row_tie rfl ⟨rfl, rfl⟩ (by kernel_rfl) rfl plain (by kernel_rfl)
#print axioms card
end schedShares
end Go.Proofs.YtggfcdhkgldbfaaDoor
