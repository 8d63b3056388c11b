/-
  PARTS of a claim, merged by segs.py: NwOpen, CwHold.
-/
import Derived.Test.YtggfcdhkgldbfaaN40
import Derived.Test.YtggfcdhkgldbfaaN29
import Derived.Test.YtggfcdhkgldbfaaRows
import Derived.ProofKit
import Derived.OpenShut
import Derived.WideKeyArgs
import Derived.ChangeArms
import Derived.Conc.LeavingOf
import Derived.JoinedCond
namespace Go.Proofs.Ytggfcdhkgldbfaa
set_option linter.unusedSimpArgs false
set_option linter.unusedVariables false

/-! ### NwOpen -/
section
open Go Go.ChangeShapes Go.WideShapes Go.ChangeAt Go.RowKit Cw

theorem list_of {α : Type} {p : Nat → α → Prop} : ∀ n, (∀ i, i < n → ∃ a, p i a) → ∃ l : List α, l.length = n ∧ ∀ i a, l[i]? = some a → p i a
  | 0, _ => ⟨[], rfl, by simp⟩
  | n + 1, h => by
    obtain ⟨l, hl, hp⟩ := list_of n (fun i hi => h i (by omega))
    obtain ⟨a, ha⟩ := h n (by omega)
    refine ⟨l ++ [a], by simp [hl], fun i b hb => ?_⟩
    by_cases hi : i < n
    · rw [List.getElem?_append_left (by omega)] at hb
      exact hp i b hb
    · have h1 : i < (l ++ [a]).length := (List.getElem?_eq_some_iff.1 hb).1
      simp only [List.length_append, List.length_cons, List.length_nil] at h1
      have e : i = n := by omega
      rw [List.getElem?_append_right (by omega), show i - l.length = 0 by omega] at hb
      simp only [List.getElem?_cons_zero, Option.some.injEq] at hb
      rw [e, ← hb]; exact ha
theorem bulk_pos {H : Type} (d : DataW H) : 1 ≤ Rows.uptoBulk d := by
  cases d with
  | lit l => cases l <;> simp [Rows.uptoBulk]
  | _ => simp [Rows.uptoBulk]
theorem bulk_mem {H : Type} {d : DataW H} : ∀ {l : List (DataW H)}, d ∈ l → Rows.uptoBulk d ≤ Rows.uptoBulkAll l
  | x :: r, h => by
    simp only [Rows.uptoBulkAll]
    rcases List.mem_cons.1 h with rfl | h
    · omega
    · have := bulk_mem h; omega
theorem bulk_len {H : Type} : ∀ (l : List (DataW H)), l.length ≤ Rows.uptoBulkAll l
  | [] => by simp
  | x :: r => by
    have h1 := bulk_pos x
    have h2 := bulk_len r
    simp only [Rows.uptoBulkAll, List.length_cons]
    omega

section
variable {H : Type} {enc : TypeId × Value → H} {w : World} {base : Nat} {sp : Nat → Bool} {held : Bool}
theorem plain_spot {a : Addr} {v : Value} (h : w.cell? a = some v) : a.spot = none := by
  unfold World.cell? at h
  cases hs : a.spot with
  | none => rfl
  | some x =>
    rw [hs] at h
    split at h <;> simp at h
/-- A slice whose elements take one cell each. -/
theorem open_list {α : Type} {t e : TypeId} (ht : Try.prog.underlying t = some (.slice e)) (hc : Try.prog.cellsOf e = 1) {p : α → Value → DataW H → Prop} (hp : ∀ n u x, DataW.trod enc Try.prog w base sp held n e [u] = some x → ∃ a, p a u x.1)
    {fuel : Nat} {cs : List Value} {x : DataW H × List MemPlace} (h : DataW.trod enc Try.prog w base sp held fuel t cs = some x) :
    ∃ (a : Option Addr) (l : List α) (cap : Nat), cs = [.slice a l.length cap] ∧ (l = [] ∨ ∃ b o, a = some ⟨b, o, none⟩ ∧ ∀ (k : Nat) (y : α), l[k]? = some y → ∃ u, w.cell? ⟨b, o + k, none⟩ = some u ∧ ∃ d, p y u d ∧ Rows.uptoBulk d ≤ Rows.uptoBulk x.1) ∧ l.length ≤ Rows.uptoBulk x.1 ∧ ∀ y ∈ l, ∃ u d, p y u d ∧ Rows.uptoBulk d ≤ Rows.uptoBulk x.1 := by
  rcases DataW.trod_slice ht h with ⟨rfl, rfl⟩ | ⟨a, len, cap, elems, rest, n, rfl, rfl, rfl, _, hlc, _, hel, hi, _, _⟩
  · exact ⟨none, [], 0, rfl, .inl rfl, by simp, by simp⟩
  · rw [hc] at hi
    obtain ⟨l, hl, hp'⟩ := list_of (p := fun i y => ∃ u d, w.cell? (a.add i) = some u ∧ p y u d ∧ d ∈ elems.map (·.1)) len (fun i hlt => by
      have he : elems[i]? = some elems[i] := List.getElem?_eq_getElem (by omega)
      obtain ⟨cs, h2, h3⟩ := Option.bind_eq_some_iff.1 ((hi i hlt).trans he)
      obtain ⟨_, h4, h5⟩ := World.cells?_some h2
      match cs, h4, h5, h3 with
      | [u], _, h5, h3 =>
        have h6 := h5 0 (by omega)
        obtain ⟨y, hy⟩ := hp _ _ _ h3
        exact ⟨y, u, _, by simpa [Addr.add] using h6, hy, List.mem_map.2 ⟨_, List.mem_of_getElem? he, rfl⟩⟩)
    have hb : ∀ d ∈ elems.map (·.1), Rows.uptoBulk d ≤ Rows.uptoBulk (DataW.slice (elems.map (·.1)) (rest.map (·.1))) := fun d hd => by
      have := bulk_mem hd
      simp only [Rows.uptoBulk]
      omega
    refine ⟨some a, l, cap, by rw [hl], ?_, ?_, fun y hy => ?_⟩
    · rcases l with _ | ⟨y0, l'⟩
      · exact .inl rfl
      · right
        obtain ⟨u0, d0, c0, _⟩ := hp' 0 y0 rfl
        have hs : a.spot = none := plain_spot (w := w) (v := u0) (by simpa [Addr.add] using c0)
        refine ⟨a.block, a.off, by cases a; simp_all, fun k y hk => ?_⟩
        obtain ⟨u, d, c, hpy, hd⟩ := hp' k y hk
        refine ⟨u, ?_, d, hpy, hb d hd⟩
        rw [← c]
        cases a
        simp only at hs
        subst hs
        unfold Addr.add
        split
        · rename_i h; subst h; simp
        · rfl
    · have := bulk_len (elems.map (·.1))
      simp only [Rows.uptoBulk]
      simp only [List.length_map] at this
      omega
    · obtain ⟨k, hk⟩ := List.getElem?_of_mem hy
      obtain ⟨u, d, _, hpy, hd⟩ := hp' k y hk
      exact ⟨u, d, hpy, hb d hd⟩
theorem open_u8row {t : TypeId} (ht : Try.prog.underlying t = some (.slice 5)) {v : Value} {d : DataW H} {ps : List MemPlace} (hs : ∃ a len cap, v = .slice a len cap) (h : DataW.Trod enc Try.prog w base sp held t v d ps) :
    ∃ p : List Nat, U8Row w v p ∧ p.length ≤ Rows.uptoBulk d ∧ ∀ x ∈ p, x < 256 := by
  obtain ⟨a, len, cap, rfl⟩ := hs
  obtain ⟨n, h⟩ := h
  obtain ⟨A, l, c, h1, h2, h3, h4⟩ := open_list (α := Nat) (p := fun y u _ => u = .int .u8 y ∧ y < 256) ht (by kernel_rfl) (fun n u x h => by
    obtain ⟨m, e, _, hw⟩ := DataW.trod_int Try.underlying5 h
    injection e with e
    simp [Lit.wf, IntKind.min, IntKind.max, IntKind.signed, IntKind.bits] at hw
    exact ⟨m.toNat, by rw [e, Int.toNat_of_nonneg (by omega)], by omega⟩) h
  have h1' : [Value.slice a len cap] = _ := h1
  injection h1' with h1'
  refine ⟨l, ⟨A, c, h1', ?_⟩, h3, fun y hy => by obtain ⟨_, _, ⟨_, h⟩, _⟩ := h4 y hy; exact h⟩
  rcases h2 with rfl | ⟨b, o, e, hk⟩
  · exact .inl rfl
  · exact .inr ⟨b, o, e, fun k x hx => by
      obtain ⟨u, hu, _, ⟨rfl, _⟩, _⟩ := hk k x hx
      exact hu⟩
theorem open_strrow {n : Nat} {u : Value} {x : DataW H × List MemPlace} (h : DataW.trod enc Try.prog w base sp held n 38 [u] = some x) : ∃ S : List ByteArray, StrRow w u S ∧ S.length ≤ Rows.uptoBulk x.1 := by
  obtain ⟨A, l, c, h1, h2, h3, h4⟩ := open_list (α := ByteArray) (p := fun y u _ => u = .string y) Try.underlying38 (by kernel_rfl) (fun n u x h => by
    obtain ⟨s, e, _, _⟩ := DataW.trod_string Try.underlying9 h
    injection e with e
    exact ⟨s, e⟩) h
  injection h1 with h1
  refine ⟨l, ⟨A, c, h1, ?_⟩, h3⟩
  rcases h2 with rfl | ⟨b, o, e, hk⟩
  · exact .inl rfl
  · exact .inr ⟨b, o, e, fun k x hx => by
      obtain ⟨u, hu, _, rfl, _⟩ := hk k x hx
      exact hu⟩
theorem open_strrows {t : TypeId} (ht : Try.prog.underlying t = some (.slice 38)) {v : Value} {d : DataW H} {ps : List MemPlace} (hs : ∃ a len cap, v = .slice a len cap) (h : DataW.Trod enc Try.prog w base sp held t v d ps) :
    ∃ L : List (List ByteArray), StrRows w v L ∧ L.length ≤ Rows.uptoBulk d ∧ ∀ S ∈ L, S.length ≤ Rows.uptoBulk d := by
  obtain ⟨a, len, cap, rfl⟩ := hs
  obtain ⟨n, h⟩ := h
  obtain ⟨A, l, c, h1, h2, h3, h4⟩ := open_list (α := List ByteArray) (p := fun S u d => StrRow w u S ∧ S.length ≤ Rows.uptoBulk d) ht (by kernel_rfl) (fun n u x h => open_strrow h) h
  have h1' : [Value.slice a len cap] = _ := h1
  injection h1' with h1'
  refine ⟨l, ⟨A, c, h1', ?_⟩, h3, fun S hS => by obtain ⟨_, _, ⟨_, h⟩, h'⟩ := h4 S hS; exact Nat.le_trans h h'⟩
  rcases h2 with rfl | ⟨b, o, e, hk⟩
  · exact .inl rfl
  · exact .inr ⟨b, o, e, fun k x hx => by
      obtain ⟨u, hu, _, ⟨h, _⟩, _⟩ := hk k x hx
      exact ⟨u, hu, h⟩⟩
end

section
variable {H : Type} {enc : TypeId × Value → H} {P : Program}
theorem Leaves.same {W W' : World} (h : Leaves W W') {p : MemPlace} (hp : p.block < W.heap.size) : W.sameAt W' p := by
  cases p with
  | cell b o => exact World.cell?_of_block (w := W) (h.keep.2 b hp)
  | map b => exact h.keep.2 b hp
theorem Leaves.frame {W w' : World} (h : Leaves W w') (may : MemPlace → Prop) : W.keptBut w' may := by
  refine ⟨h.os, h.output, fun i hi => ?_⟩
  rw [h.keep.2 i hi]
  split <;> simp_all
theorem trodAll_left (hl : laidOutB P = true) {W W' : World} (hb : Leaves W W') {sp : Nat → Bool} :
    ∀ {ts : List TypeId} {vs : List Value} {ds : List (DataW H)} {ps : List MemPlace}, (∀ t ∈ ts, P.readableRec t = true ∧ t < P.types.size) → DataW.TrodAll enc P W 0 (fun _ => true) true ts vs ds ps →
      (∀ p ∈ ps, p.block < W.heap.size) → (∀ p ∈ ps, sp p.block = true) → DataW.TrodAll enc P W' 0 sp true ts vs ds ps
  | [], [], [], _, _, h, _, _ => h
  | t :: ts, v :: vs, d :: ds, _, hr, h, hlt, hsp => by
    obtain ⟨p, q, h1, h2, rfl⟩ := h
    obtain ⟨hr1, hr2⟩ := hr t (by simp)
    exact ⟨p, q, WideElems.Trod_stays hl hr1 hr2 h1 (fun x hx => hb.same (hlt x (by simp [hx]))) (fun x hx => hsp x (by simp [hx])),
      trodAll_left hl hb (fun t ht => hr t (by simp [ht])) h2 (fun x hx => hlt x (by simp [hx])) (fun x hx => hsp x (by simp [hx])), rfl⟩
  | [], _ :: _, _, _, _, h, _, _ => h.elim
  | [], [], _ :: _, _, _, h, _, _ => h.elim
  | _ :: _, [], _, _, _, h, _, _ => h.elim
  | _ :: _, _ :: _, [], _, _, h, _, _ => h.elim
/-- A law's end. -/
theorem left_close (hl : laidOutB P = true) {f : Func} {s : ChangeSpec} {tb : TypeId} (htb : P.underlying tb = some .bool) (hres : f.resultTypes = #[tb]) (hvars : s.vars = []) (hrd : ∀ t ∈ f.params.toList, P.readableRec t = true ∧ t < P.types.size)
    {fresh handsOn : Bool} {W W' : World} {args : Array Value} {ds gs : List (DataW H)} {before : List MemPlace} (hspec : s.fn H (ds ++ gs) = { results := [.lit (.bool true)], args := ds })
    (hW : DataW.Whole enc P f.params.toList s.vars false W args.toList ds gs before) (hb : Leaves W W') : s.post enc P f false fresh handsOn false W args (.bool true) W' := by
  have hlt : ∀ p ∈ before, p.block < W.heap.size := fun p hp => hW.lt p hp
  have hW' := hW
  obtain ⟨p, q, hA, hV, rfl, _, _⟩ := hW
  have hV' := hV
  rw [hvars] at hV'
  obtain ⟨rfl, rfl⟩ := trodVars_none hV'
  refine ⟨ds, _, _, [], p, [], hW', ?_, ?_, ?_, hb.frame _, fun h => by cases h⟩
  · rw [hspec, hres]; exact trodAll_mk1 (shut_bool htb true)
  · rw [hspec]; exact trodAll_left hl hb hrd hA (fun x hx => hlt x (by simp [hx])) (fun x hx => by simpa using hlt x (by simp [hx]))
  · rw [hspec, hvars]; rfl
end
end

/-! ### CwHold -/
section
open Go Go.Conc

section
variable {H : Type} {enc : TypeId × Value → H}
theorem leaving_of_cond {a : Assume} {C : Checked} {os : Os} {f : FuncId} {fn : Func} {s : OpenSpec} {k : (H : Type) → List (DataW H) → Bool} (hk : s.cond = some k) {F : Stop.Interp} {conds : List PathCond} {apart fresh handsOn again : Bool}
    (own : ownKnob C.prog.godebug = none) (started : os.Started) (hfn : C.prog.funcs[f]? = some fn)
    (witness : ∃ (w : World) (tape : Tape) (i : Input), w.os = os ∧ (w.forCall tape i).Shaped C.prog ∧ i.vars = [] ∧ Input.okWide C.prog (w.forCall tape i) .any w.heap.size f i ∧
      s.pre6 enc C.prog fn conds apart (w.forCall tape i).memory i.args ∧ a.holds C.prog (lone (Frame.enter C.prog f i.args .normal) [] (w.forCall tape i)))
    (runs : ∀ (W : World) (base : Nat) (args : Array Value) (ds gs : List (DataW H)) (before : List MemPlace),
      (∀ (j : Nat) t v, fn.params[j]? = some t → args[j]? = some v → Value.okWide C.prog W .any base t v) →
      DataW.Whole enc C.prog fn.params.toList s.vars apart W args.toList ds gs before → k H (ds ++ gs) = true →
      ∃ M last o w' t', runNT C.prog (M + 1) (solo (G (Frame.enter C.prog f args .normal) []) W) #[] = (.ended o w', t') ∧ runN C.prog M (solo (G (Frame.enter C.prog f args .normal) []) W) = .next last ∧
        step C.prog last = .ended o w' ∧ Go.Conc.Good C.prog (fun v W' => (s.at F).post enc C.prog fn apart fresh handsOn again W args v W') last o w' t') :
    ReturnsInLeavingWide a C os f .any (s.pre6 enc C.prog fn conds apart) ((s.at F).post enc C.prog fn apart fresh handsOn again) := by
  refine returnsInLeavingWide_of_good own started witness fun w tape i _ _ _ hok hpre _ => ?_
  obtain ⟨_, _, _, fn', hfn', _, _, _, _, hval⟩ := hok
  cases Option.some.inj (hfn'.symm.trans hfn)
  obtain ⟨ds, gs, before, hw, _, hkk⟩ := (OpenSpec.pre_some hk conds apart _ _).1 hpre.1
  obtain ⟨M, last, o, w', t', h1, h2, h3, h4⟩ := runs (w.forCall tape i) w.heap.size i.args ds gs before hval (DataW.Whole.of_heap (w' := w.forCall tape i) (by rfl) hw) hkk
  exact ⟨M, last, o, w', t', h1, h2, h3, h4.mono fun v hp => ChangeSpec.post_blind hp⟩
end

theorem holds_leaving_cond {p : Pinned} {s : OpenSpec} {c : OpenClaim} (f : FuncId) (fn : Func)
    (hn : c.program = p.name) (hs : c.sum = p.sum) (hsp : c.spec = s.name)
    (hstart : c.start = .entering) (hout : c.outside = []) (hin : c.inits = []) (hun : c.under = none) (hi4 : c.initsInPlace = [] ∧ c.initsUnfollowed = false ∧ c.initsRecurse = false ∧ c.initsNamed = [] ∧ c.initsPassed = []) (hnb : c.noBlocks = false) (hlv : c.leaving = true) (hfo : c.followed = none) (hnar : c.narrowed = s.cond.isSome) (hstill : c.still = false)
    (hfn : p.checked.prog.funcNamed c.func = some f) (hf : p.checked.prog.funcs[f]? = some fn)
    (closed : joinedFacts p.checked.prog f fn s.bare c = true)
    (hinst : fn.isInstance p.checked.prog c.origin c.targs) (hwrap : fn.isWrapper p.checked.prog c.wrapper c.mainSum)
    (h : ∀ os : Os, os.Started → ∀ (H : Type) (enc : TypeId × Value → H), ∀ F : Stop.Interp,
      ReturnsInLeavingWide c.assume p.checked os f .any (c.pre enc p.checked.prog fn s) ((s.at F).post enc p.checked.prog fn c.apart c.fresh c.handsOn c.again)) : c.holds p s := by
  simp only [joinedFacts, Bool.and_eq_true, beq_iff_eq, Array.all_eq_true_iff_forall_mem, List.all_eq_true, decide_eq_true_eq] at closed
  obtain ⟨⟨⟨⟨⟨⟨⟨⟨⟨⟨⟨⟨⟨⟨⟨⟨⟨⟨⟨⟨⟨⟨⟨⟨⟨⟨⟨⟨⟨⟨⟨k1, k2⟩, k3⟩, k4⟩, k5⟩, k6⟩, k7⟩, k8⟩, k9⟩, k10⟩, k11⟩, k12⟩, k13⟩, k14⟩, k15⟩, k16⟩, k17⟩, k17b⟩, k18⟩, k19⟩, k20⟩, k21⟩, k22⟩, k23⟩, k23b⟩, k24⟩, k24b⟩, k24c⟩, k25⟩, k26⟩, k27⟩, k28⟩ := closed
  have hq : ∀ os : Os, Stop.quiet p.checked.prog os := fun os k hk => by rw [k9] at hk; cases hk
  refine ⟨k1, hn, hs, hsp, k2, k3, by unfold OpenClaim.startFits; rw [hstart]; exact k24, by unfold OpenClaim.startTold; rw [hstart]; exact ⟨hin, hun, hi4⟩, f, fn, hfn, hf, ⟨k4, k19⟩, (fun hb => by rw [hnb] at hb; cases hb), by unfold OpenClaim.namedList; rw [hfo]; exact k5, hinst, hwrap,
    k6.trans k7.symm, ⟨k8.trans k9.symm, by unfold Program.envWorded; rw [k9]; rfl, k23b⟩, k10, k11, k12, k13, k14, ⟨k15, k27, k28⟩, ⟨k16, k20⟩, ⟨k17, k21, k25, k26⟩, ⟨k22, k24b, k24c, k17b⟩, (by rw [hout, hnar]; cases hsh : c.shortTexts with | none => simp | some _ => rw [hsh] at k23; cases k23), fun n hn' => varReadable_some (k18 n hn'),
    ⟨_, by unfold OpenClaim.world; rw [hout, hstart]; exact WideRow.started_initial, hq _⟩, [], by unfold OpenClaim.lists; rw [hfo], fun os st _ H enc _ => ?_⟩
  have st' : os.Started := by unfold OpenClaim.world at st; rw [hout, hstart] at st; exact st
  rw [OpenClaim.post_not_still hstill]
  unfold OpenClaim.form
  rw [hstart, k6]
  intro F
  have e1 : c.okInput = Input.okWide := by unfold OpenClaim.okInput; rw [hnb]
  have e2 : c.atReturn p.checked.prog = leavingAtReturn p.checked.prog := by unfold OpenClaim.atReturn; rw [hlv]
  have e3 : c.always p.checked.prog [] = nothingAlways := by unfold OpenClaim.always; rw [hfo]
  have e4 : s.post enc p.checked.prog fn F c.outside c.apart c.fresh c.handsOn c.again = (s.at F).post enc p.checked.prog fn c.apart c.fresh c.handsOn c.again := by rw [hout]; rfl
  rw [e1, e2, e3]
  show ReturnsInOpen _ _ _ _ _ _ _ _ (s.post enc p.checked.prog fn F c.outside c.apart c.fresh c.handsOn c.again) _ _
  rw [e4]
  exact h os st' H enc F k24
end
end Go.Proofs.Ytggfcdhkgldbfaa
