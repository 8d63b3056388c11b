/-
  PARTS of a claim, merged by segs.py: Laid, Kit2, Kit3, TokW, Ps1, Ast2, Ast5.
-/
import Derived.Test.YtnbacdmlaedppaaGreatDoorQ06
import Derived.Test.YtnbacdmlaedppaaGreatDoorQ02
import Derived.Test.YtnbacdmlaedppaaGreatDoorQ04
import Derived.Test.YtnbacdmlaedppaaGreatDoorProg
import Derived.Test.YtnbacdmlaedppaaGreatDoorQ05
import Derived.MakeChecks
import Derived.WalkSmall
import Derived.BigQuiet
import Derived.Tactics
namespace Go.Proofs.YtnbacdmlaedppaaGreatDoor

/-! ### Laid -/
section
open Go.ChangeShapes Go.WideShapes Go.ChangeAt Go.RowKit Go.Deep

theorem own : ownKnob Tryz.prog.godebug = none := by kernel_rfl
theorem laidOut : laidOutB Tryz.prog = true := by kernel_rfl
theorem gTab : Tryz.prog.globalNamed "internal/strconv.uint64pow10" = some 2 := by kernel_rfl
theorem gTabType : (Tryz.prog.globals[2]?).map (·.type) = some 191 := by kernel_rfl
theorem cellsU64 : Tryz.prog.cellsOf 182 = 1 := by kernel_rfl
theorem cellsTab : Tryz.prog.cellsOf 191 = 20 := by kernel_rfl
theorem tabData_eq : (Rows.laid_internal_strconv_uint64pow10 : DataW Unit) = Lib.tabData .u64 Lib.pow10Tab := by kernel_rfl

theorem laidVars_reads {P : Program} {w : World} : ∀ {l : List (String × DataW Unit)} {ps : List MemPlace}, DataW.LaidVars P w l ps → ∀ n d, (n, d) ∈ l →
    ∃ g t cs fuel p, P.globalNamed n = some g ∧ (P.globals[g]?).map (·.type) = some t ∧ w.var? P n = some cs ∧ DataW.trod (fun _ => ()) P w 0 (fun _ => true) false fuel t cs.toList = some (d, p)
  | [], _, _, _, _, hm => by cases hm
  | (n', d') :: r, ps, h, n, d, hm => by
    obtain ⟨g, t, cs, fuel, p, q, h1, h2, h3, h4, h5, _⟩ := h
    rcases List.mem_cons.1 hm with e | e
    · cases e
      exact ⟨g, t, cs, fuel, p, h1, h2, h3, h4⟩
    · exact laidVars_reads h5 n d e

/-- What a row's list gives: the table of powers of ten. -/
theorem tab_of_laid {l : List (String × DataW Unit)} {W : World} (hm : ("internal/strconv.uint64pow10", Rows.laid_internal_strconv_uint64pow10) ∈ l) (hp : (l.all fun x => x.2.handleName?.isNone) = true) (h : laidMetH Tryz.prog l W) : Tab W := by
  rw [MakeChecks.laidMetH_plain _ _ _ hp] at h
  obtain ⟨ps, hv, _⟩ := h
  obtain ⟨g, t, cs, fuel, p, h1, h2, h3, h4⟩ := laidVars_reads hv _ _ hm
  obtain rfl := Option.some.inj (gTab.symm.trans h1)
  obtain rfl := Option.some.inj (gTabType.symm.trans h2)
  rw [tabData_eq] at h4
  have hcs := Lib.cells_of_tab Tryz.underlying191 Tryz.underlying182 cellsU64 cellsTab h4
  have hlt : 2 < W.heap.size := by
    unfold World.var? at h3
    rw [gTab] at h3
    simp only [Option.bind_some] at h3
    cases hq : W.heap[2]? with
    | none => rw [hq] at h3; cases h3
    | some o => exact (Array.getElem?_eq_some_iff.1 hq).1
  intro w' hb
  have h3' := var?_below hb gTab hlt h3
  unfold Lib.TabIs
  rw [h3', ← hcs]

theorem okWide_array {P : Program} {w : World} {r : Reach} {base : Nat} {t : TypeId} {v : Value} {n : Nat} {e : TypeId} (ht : P.underlying t = some (.array n e)) (h : Value.okWide P w r base t v) : ∃ cs, v = .agg cs ∧ cs.size = P.cellsOf t := by
  simp only [Value.okWide, ht] at h
  obtain ⟨cs, h1, h2, _⟩ := h
  exact ⟨cs, h1, h2⟩

theorem slice_of {n : Nat} {H : Type} {enc : TypeId × Value → H} {w : World} {base : Nat} {sp : Nat → Bool} {held : Bool} {t e : TypeId} {v : Value} {x : DataW H × List MemPlace} (ht : Tryz.prog.underlying t = some (.slice e))
    (h : DataW.trod enc Tryz.prog w base sp held n t [v] = some x) : ∃ a len cap, v = .slice a len cap := by
  rcases open_slice ht h with ⟨h0, _⟩ | ⟨a', len', cap', m, n, D, Pl, hcs, _⟩
  · injection h0 with h0 _; exact ⟨_, _, _, h0⟩
  · injection hcs with h0 _; exact ⟨_, _, _, h0⟩

/-- A start for the witness: the settled world, the three tables as their initialisers lay them. -/
def cellsIn : DataW Unit → Array Value
  | .agg l => (l.map fun | .lit (.int k n) => Value.int k n | _ => undef).toArray
  | _ => #[]
def layIn (d : DataW Unit) : Obj → Obj
  | .cells _ t frozen => .cells (cellsIn d) t frozen
  | o => o
noncomputable def laidWorld (os : Os) : World :=
  { World.holding Tryz.prog os ⟨#[], #[], []⟩ with heap := (((World.holding Tryz.prog os ⟨#[], #[], []⟩).heap.modify 2 (layIn Rows.laid_internal_strconv_uint64pow10)).modify 5 (layIn Rows.laid_math_bits_deBruijn32tab)).modify 6 (layIn Rows.laid_math_bits_deBruijn64tab) }

end

/-! ### Kit2 -/
section
open Go.RowKit

/-- 'append(out, x, ..)' where the new block's number stands as the walk has reckoned it. -/
theorem wpList_append_new2 {P : Program} {w0 : World} {news : List Value} {ops : Array Oper} {rest : List Oper} {o : Oper} {a : Act} {Q : Exit → Act → World → Prop} {t e : TypeId} {i : TypeInfo} {z : Value} {size bytes : Nat}
    (ht : P.underlying t = some (.slice e)) (hi : P.info? e = some i) (hz : i.zero = some z) (hsize : i.size = size) (hby : i.bytes = bytes) (hzs : z.cells.size = size) (hsz : 0 < size) (hb1 : 0 < bytes)
    (hgd : o.guard = none) {s x : Operand} (ho : o.op = .call { callee := .builtin .append, args := #[s, x], argTypes := #[t, t] })
    {base : Nat} {v : Value} {n : Nat} {xs : List Value} (hs : a.eval s = v) (hown : w0.ownsRow base e size v n xs) {g m c : Nat} (hx : a.eval x = .slice (some ⟨g, 0, none⟩) m c) (hg : g = w0.heap.size)
    (hl : news.length = m * size) (h1 : news.all (·.oneCell') = true) (hlim : (n + m) * bytes ≤ 140737488355328) (hbase : base ≤ w0.heap.size)
    (h : ∀ v' w', w'.ownsRow base e size v' (n + m) (xs ++ news) → w0.grownBy w' v.ownBlock → wpList P ops Q rest (a.put o.dst v') w') : wpList P ops Q (o :: rest) a (w0.alloc (.cells news.toArray e)) := by
  subst hg
  exact wpList_append_new ht hi hz hsize hby hzs hsz hb1 hgd ho hs hown hx hl h1 hlim hbase h

end

/-! ### Kit3 -/
section
open Go.RowKit

/-- A world that w has grown into. -/
structure BelowBy (w : World) where
  to : World
  le : Below w.heap.size w to
instance (w : World) : Inhabited (BelowBy w) := ⟨w, Below.refl _ _⟩

theorem wp_region_below {P : Program} {id : Nat} {Q : Exit → Act → World → Prop} {a : Act} {w : World} {l : List Oper} (hm : P.follows .mixedOrders = true) (hB : Region.lexB .any l.toArray = true)
    (h : wpQuiet P l.toArray (fun w' => ∃ p : BelowBy w, w' = p.to) (fun a' => ∀ w', (∃ p : BelowBy w, w' = p.to) → Q .normal a' w') l a) : (Code.region id l.toArray true).wp P Q a w :=
  wp_region_quiet (C := fun w' => ∃ p : BelowBy w, w' = p.to) hm hB ⟨⟨w.drew, (Below.refl _ _).drew⟩, rfl⟩ (by simpa using h)

theorem calls_by {P : Program} {f : FuncId} {args : Array Value} {w : World} {p : BelowBy w} {v : Value}
    (h : Calls P f args p.to fun e w' => e = .returned v ∧ Below p.to.heap.size p.to w') : Calls P f args p.to fun e w'' => e = .returned v ∧ ∃ q : BelowBy w, w'' = q.to :=
  h.mono fun _ w' ⟨he, hb⟩ => ⟨he, ⟨w', p.le.trans (hb.mono p.le.size)⟩, rfl⟩

theorem by_cell {w : World} {b o : Nat} {v : Value} (h : w.cell? ⟨b, o, none⟩ = some v) (p : BelowBy w) : p.to.cell? ⟨b, o, none⟩ = some v := by
  rw [p.le.cell (p := ⟨b, o, none⟩) (by
    unfold World.cell? at h
    cases hq : w.heap[b]? with
    | none => simp [hq] at h
    | some x => exact (Array.getElem?_eq_some_iff.1 hq).1)]; exact h
theorem cell_keep {w w' : World} {b o : Nat} {v : Value} (hb : Below w.heap.size w w') (h : w.cell? ⟨b, o, none⟩ = some v) : w'.cell? ⟨b, o, none⟩ = some v :=
  by_cell h ⟨w', hb⟩
end

/-! ### TokW -/
section
open Go.RowKit

/-- The cells of tokens. -/
def flatT (l : List Tok) : List Value := l.flatMap fun t => [.int .i64 t.k, .string ⟨t.t.toArray⟩, .int .i64 t.v.k, .int .i64 t.v.n, .string t.v.s, .int .i64 t.a]
theorem flatT_length : ∀ l : List Tok, (flatT l).length = l.length * 6
  | [] => rfl
  | t :: l => by
    have := flatT_length l
    simp only [flatT, List.flatMap_cons, List.length_append, List.length_cons] at *
    simp only [List.length_nil]; omega
theorem flatT_append (a b : List Tok) : flatT (a ++ b) = flatT a ++ flatT b := by simp [flatT]
theorem flatT_get : ∀ (l : List Tok) (i : Nat) (h : i < l.length), (flatT l)[i * 6]? = some (.int .i64 l[i].k) ∧ (flatT l)[i * 6 + 1]? = some (.string ⟨l[i].t.toArray⟩) ∧ (flatT l)[i * 6 + 2]? = some (.int .i64 l[i].v.k) ∧ (flatT l)[i * 6 + 3]? = some (.int .i64 l[i].v.n) ∧ (flatT l)[i * 6 + 4]? = some (.string l[i].v.s) ∧ (flatT l)[i * 6 + 5]? = some (.int .i64 l[i].a)
  | t :: l, 0, _ => ⟨rfl, rfl, rfl, rfl, rfl, rfl⟩
  | t :: l, i + 1, h => by
    have := flatT_get l i (by simpa using h)
    have e : (i + 1) * 6 = i * 6 + 6 := by omega
    simpa [flatT, e, Nat.add_assoc] using this

/-- A slice of tokens. -/
def TokAt (w : World) (A : Option Addr) (l : List Tok) : Prop :=
  0 < l.length → ∃ b o, A = some ⟨b, o, none⟩ ∧ ∀ i (h : i < l.length),
    w.cell? ⟨b, o + i * 6, none⟩ = some (.int .i64 l[i].k) ∧ w.cell? ⟨b, o + i * 6 + 1, none⟩ = some (.string ⟨l[i].t.toArray⟩) ∧ w.cell? ⟨b, o + i * 6 + 2, none⟩ = some (.int .i64 l[i].v.k) ∧ w.cell? ⟨b, o + i * 6 + 3, none⟩ = some (.int .i64 l[i].v.n) ∧ w.cell? ⟨b, o + i * 6 + 4, none⟩ = some (.string l[i].v.s) ∧ w.cell? ⟨b, o + i * 6 + 5, none⟩ = some (.int .i64 l[i].a)
theorem TokAt.below {w w' : World} {A : Option Addr} {l : List Tok} (h : TokAt w A l) (hb : Below w.heap.size w w') : TokAt w' A l := fun hp => by
  obtain ⟨b, o, e, hc⟩ := h hp
  refine ⟨b, o, e, fun i hi => ?_⟩
  obtain ⟨h0, h1, h2, h3, h4, h5⟩ := hc i hi
  exact ⟨cell_keep hb h0, cell_keep hb h1, cell_keep hb h2, cell_keep hb h3, cell_keep hb h4, cell_keep hb h5⟩
theorem own_toks {w : World} {B : Nat} {e : TypeId} {v : Value} {l : List Tok} (h : w.ownsRow B e 6 v l.length (flatT l)) : ∃ A c, v = .slice A l.length c ∧ TokAt w A l ∧ l.length ≤ c := by
  rcases h.2 with ⟨rfl, h0⟩ | ⟨g, cap, cur, rfl, hB, hh, hn, hm, hcs, ht⟩
  · exact ⟨none, 0, by rw [h0], fun hp => by omega, by omega⟩
  · refine ⟨some ⟨g, 0, none⟩, cap, rfl, fun hp => ⟨g, 0, rfl, fun i hi => ?_⟩, hn⟩
    obtain ⟨e0, e1, e2, e3, e4, e5⟩ := flatT_get l i hi
    have hl := flatT_length l
    refine ⟨?_, ?_, ?_, ?_, ?_, ?_⟩
    · rw [h.cellAt _ (by omega)]; rw [Nat.zero_add]; exact e0
    · rw [h.cellAt _ (by omega)]; rw [Nat.zero_add]; exact e1
    · rw [h.cellAt _ (by omega)]; rw [Nat.zero_add]; exact e2
    · rw [h.cellAt _ (by omega)]; rw [Nat.zero_add]; exact e3
    · rw [h.cellAt _ (by omega)]; rw [Nat.zero_add]; exact e4
    · rw [h.cellAt _ (by omega)]; rw [Nat.zero_add]; exact e5

/-- A call that returns tokens, an offset and an error's number. -/
def RetS (w : World) (x : List Tok × Int × Int) (e : Ending) (w' : World) : Prop :=
  ∃ A c, e = .returned (.tuple #[.slice A x.1.length c, .int .i64 x.2.1, .int .i64 x.2.2]) ∧ TokAt w' A x.1 ∧ x.1.length ≤ c ∧ Below w.heap.size w w'

end

/-! ### Ps1 -/
section
open Go.RowKit

/-- The document's tokens: those of the text and three more ends. -/
structure RefTk (w : World) (A : Option Addr) (L : List Tok) : Prop where
  at_ : TokAt w A (ext3 L)
  ended : Ended L
  few : L.length ≤ 1000
  txt : ∀ i, (tkL L i).t.length ≤ 100000
  lit : ∀ i, ((tkL L i).k = 2 ∨ (tkL L i).k = 3) → parseL (tkL L i).t = ((tkL L i).v, 0)
theorem RefTk.below {w w' : World} {A : Option Addr} {L : List Tok} (h : RefTk w A L) (hb : Below w.heap.size w w') : RefTk w' A L := ⟨h.at_.below hb, h.ended, h.few, h.txt, h.lit⟩
theorem RefTk.cells {w : World} {A : Option Addr} {L : List Tok} (h : RefTk w A L) {i : Nat} (hi : i < L.length + 3) : ∃ b o, A = some ⟨b, o, none⟩ ∧
    w.cell? ⟨b, o + i * 6, none⟩ = some (.int .i64 (tkL L i).k) ∧ w.cell? ⟨b, o + i * 6 + 1, none⟩ = some (.string ⟨(tkL L i).t.toArray⟩) := by
  have hl := ext3_len L
  obtain ⟨b, o, e, hc⟩ := h.at_ (by omega)
  have hi' : i < (ext3 L).length := by omega
  obtain ⟨h0, h1, _⟩ := hc i hi'
  rw [ext3_at h.ended hi'] at h0 h1
  exact ⟨b, o, e, h0, h1⟩

set_option maxRecDepth 100000 in
set_option maxHeartbeats 1000000 in
theorem ref_is (A : Option Addr) (c n i : Nat) (L : List Tok) (s : Str) (w : World) (hT : RefTk w A L) (hi : i < L.length + 3) (hn : n = L.length + 3) {x : Bool} (hx : isT (tkL L i) s = x) :
    Calls Tryz.prog 52 #[.slice A n c, .int .i64 i, .string ⟨s.toArray⟩] w fun e w' => e = .returned (.bool x) ∧ Below w.heap.size w w' := by
  obtain ⟨b, o, rfl, h0, h1⟩ := hT.cells hi
  have hb : i < n := by omega
  clear hT hi hn
  generalize tkL L i = t at *
  unfold isT at hx
  by_cases h4 : t.k = 4
  · have d4 : (t.k == 4) = true := by simpa using h4
    have hx2 : Hid ((t.t == s) = x) := hid (by rw [← hx, d4]; simp)
    have D4 := hid d4
    rw [h4] at h0
    clear hx h4 d4
    go_enter Tryz.func52, Tryz.ntmps52
    go_wp2
    go_ret
    exact ⟨ret_b hx2.out, Below.refl _ _⟩
  · have d4 : (t.k == 4) = false := by simpa using h4
    by_cases h5 : t.k = 5
    · have d5 : (t.k == 5) = true := by simpa using h5
      have hx2 : Hid ((t.t == s) = x) := hid (by rw [← hx, d4, d5]; simp)
      rw [h5] at h0
      clear hx h4 h5 d4 d5
      go_enter Tryz.func52, Tryz.ntmps52
      go_wp2
      go_ret
      exact ⟨ret_b hx2.out, Below.refl _ _⟩
    · have d5 : (t.k == 5) = false := by simpa using h5
      have hx2 : Hid (false = x) := hid (by rw [← hx, d4, d5]; simp)
      clear hx h4 h5
      go_enter Tryz.func52, Tryz.ntmps52
      go_wp2
      go_ret
      exact ⟨ret_b hx2.out, Below.refl _ _⟩

def opI (o : Option Nat) : Int := match o with
  | none => -1
  | some k => k
theorem opT_at {t : Tok} {k : Nat} (hk : k < 6) (h : isT t (opsL.getD k []) = true) (hj : ∀ j, j < k → isT t (opsL.getD j []) = false) : opT t = some k := by
  have e : k = 0 ∨ k = 1 ∨ k = 2 ∨ k = 3 ∨ k = 4 ∨ k = 5 := by omega
  unfold opT
  rcases e with rfl | rfl | rfl | rfl | rfl | rfl
  · simp [opsL, List.findIdx?_cons] at *; simp [h]
  · have h0 := hj 0 (by omega)
    simp [opsL, List.findIdx?_cons] at *; simp [h, h0]
  · have h0 := hj 0 (by omega)
    have h1 := hj 1 (by omega)
    simp [opsL, List.findIdx?_cons] at *; simp [h, h0, h1]
  · have h0 := hj 0 (by omega)
    have h1 := hj 1 (by omega)
    have h2 := hj 2 (by omega)
    simp [opsL, List.findIdx?_cons] at *; simp [h, h0, h1, h2]
  · have h0 := hj 0 (by omega)
    have h1 := hj 1 (by omega)
    have h2 := hj 2 (by omega)
    have h3 := hj 3 (by omega)
    simp [opsL, List.findIdx?_cons] at *; simp [h, h0, h1, h2, h3]
  · have h0 := hj 0 (by omega)
    have h1 := hj 1 (by omega)
    have h2 := hj 2 (by omega)
    have h3 := hj 3 (by omega)
    have h4 := hj 4 (by omega)
    simp [opsL, List.findIdx?_cons] at *; simp [h, h0, h1, h2, h3, h4]
theorem opT_none {t : Tok} (hj : ∀ j, j < 6 → isT t (opsL.getD j []) = false) : opT t = none := by
  have h0 := hj 0 (by omega)
  have h1 := hj 1 (by omega)
  have h2 := hj 2 (by omega)
  have h3 := hj 3 (by omega)
  have h4 := hj 4 (by omega)
  have h5 := hj 5 (by omega)
  unfold opT
  simp [opsL, List.findIdx?_cons] at *
  simp [h0, h1, h2, h3, h4, h5]
abbrev opsO : Obj := .cells #[.string ⟨#[61]⟩, .string ⟨#[33, 61]⟩, .string ⟨#[60]⟩, .string ⟨#[60, 61]⟩, .string ⟨#[62]⟩, .string ⟨#[62, 61]⟩] 9
theorem ops_cell (w : World) {j : Nat} (hj : j < 6) : (w.alloc opsO).cell? ⟨w.heap.size, j, none⟩ = some (.string ⟨(opsL.getD j []).toArray⟩) := by
  rw [cell_of_row _ w.heap.size j _ 9 (0, 0) (heap_alloc_new w _)]
  have e : j = 0 ∨ j = 1 ∨ j = 2 ∨ j = 3 ∨ j = 4 ∨ j = 5 := by omega
  rcases e with rfl | rfl | rfl | rfl | rfl | rfl <;> rfl

set_option maxRecDepth 100000 in
set_option maxHeartbeats 1000000 in
theorem ref_op (A : Option Addr) (c n i : Nat) (L : List Tok) (w : World) (hT : RefTk w A L) (hi : i < L.length + 3) (hn : n = L.length + 3) {x : Int} (hx : opI (opT (tkL L i)) = x) :
    Calls Tryz.prog 97 #[.slice A n c, .int .i64 i] w fun e w' => e = .returned (.int .i64 x) ∧ Below w.heap.size w w' := by
  have k0 := below_one w opsO
  have HIs := hid (fun (W : World) (kW : Below w.heap.size w W) (j : Nat) (z : Bool) (hz : isT (tkL L i) (opsL.getD j []) = z) => ref_is A c n i L (opsL.getD j []) W (hT.below kW) hi hn hz)
  have HC := hid (fun (W : World) (kW : Below (w.alloc opsO).heap.size (w.alloc opsO) W) (j : Nat) (hj : j < 6) => cell_keep kW (ops_cell w hj))
  have HX := hid hx
  clear hT hi hn hx
  generalize tkL L i = t at *
  go_enter Tryz.func97, Tryz.ntmps97
  go_wp2
  go_loopw [6] (fun i wr => ∃ k : Nat, k ≤ 6 ∧ i = .int .i64 k ∧ Below (w.alloc opsO).heap.size (w.alloc opsO) wr ∧ Hid (∀ j, j < k → isT t (opsL.getD j []) = false)) (fun i _ => 6 - (intOf i).toNat)
  case atStart => exact ⟨0, by omega, rfl, Below.refl _ _, hid (fun j hj => by omega)⟩
  case round =>
    obtain ⟨k, hk, rfl, hbel, HF⟩ := hrel
    have kW : Below w.heap.size w wr := k0.trans (hbel.mono k0.size)
    by_cases hlt : k < 6
    · have cc := HC.out wr hbel k hlt
      obtain ⟨z, hz⟩ : ∃ z, isT t (opsL.getD k []) = z := ⟨_, rfl⟩
      have H1 := hid (HIs.out wr kW k z hz)
      cases z with
      | true =>
        have HR : Hid ((k : Int) = x) := hid (by rw [← HX.out, opT_at hlt hz HF.out]; rfl)
        generalize opsL.getD k [] = s at *
        clear hz HF
        go_wp2_with fail
        refine H1.out.mono ?_
        rintro e w1 ⟨rfl, b1⟩
        go_wp2
        go_ret
        exact ⟨ret_i HR.out, kW.trans (b1.mono kW.size)⟩
      | false =>
        have HF2 : Hid (∀ j, j < k + 1 → isT t (opsL.getD j []) = false) := hid (fun j hj => by
          by_cases e : j = k
          · subst e; exact hz
          · exact HF.out j (by omega))
        generalize opsL.getD k [] = s at *
        clear hz HF
        go_wp2_with fail
        refine H1.out.mono ?_
        rintro e w1 ⟨rfl, b1⟩
        have hbel2 := hbel.trans (b1.mono hbel.size)
        clear b1
        go_wp2
        go_roundw
        case rel => exact ⟨k + 1, by omega, by go_num, hbel2, HF2⟩
        case measure => simp [intOf]; omega
    · have HR : Hid (-1 = x) := hid (by rw [← HX.out, opT_none (fun j hj => HF.out j (by omega))]; rfl)
      go_wp2
      go_ret
      exact ⟨ret_i HR.out, kW⟩
end

/-! ### Ast2 -/
section
open Go.RowKit

/-- Strings. -/
def NmsAt (w : World) (A : Option Addr) (l : List Str) : Prop :=
  0 < l.length → ∃ b o, A = some ⟨b, o, none⟩ ∧ ∀ i (h : i < l.length), w.cell? ⟨b, o + i, none⟩ = some (.string ⟨l[i].toArray⟩)
def TrmsAt (w : World) (A : Option Addr) (l : List Trm) : Prop :=
  0 < l.length → ∃ b o, A = some ⟨b, o, none⟩ ∧ ∀ i (h : i < l.length), w.cell? ⟨b, o + i * 4, none⟩ = some (.string ⟨l[i].v.toArray⟩) ∧ w.cell? ⟨b, o + i * 4 + 1, none⟩ = some (.int .i64 l[i].c.k) ∧ w.cell? ⟨b, o + i * 4 + 2, none⟩ = some (.int .i64 l[i].c.n) ∧ w.cell? ⟨b, o + i * 4 + 3, none⟩ = some (.string l[i].c.s)
def AtmsAt (w : World) (A : Option Addr) (l : List Atm) : Prop :=
  0 < l.length → ∃ b o, A = some ⟨b, o, none⟩ ∧ ∀ i (h : i < l.length), ∃ T c, w.cell? ⟨b, o + i * 3, none⟩ = some (.bool l[i].neg) ∧ w.cell? ⟨b, o + i * 3 + 1, none⟩ = some (.string ⟨l[i].rel.toArray⟩) ∧ w.cell? ⟨b, o + i * 3 + 2, none⟩ = some (.slice T l[i].ts.length c) ∧ TrmsAt w T l[i].ts ∧ l[i].ts.length ≤ c ∧ l[i].ts.length ≤ 9223372036854775807
def CndsAt (w : World) (A : Option Addr) (l : List Cnd) : Prop :=
  0 < l.length → ∃ b o, A = some ⟨b, o, none⟩ ∧ ∀ i (h : i < l.length), w.cell? ⟨b, o + i * 5, none⟩ = some (.string ⟨l[i].v.toArray⟩) ∧ w.cell? ⟨b, o + i * 5 + 1, none⟩ = some (.int .i64 l[i].op) ∧ w.cell? ⟨b, o + i * 5 + 2, none⟩ = some (.int .i64 l[i].c.k) ∧ w.cell? ⟨b, o + i * 5 + 3, none⟩ = some (.int .i64 l[i].c.n) ∧ w.cell? ⟨b, o + i * 5 + 4, none⟩ = some (.string l[i].c.s)
def KysAt (w : World) (A : Option Addr) (l : List Ky) : Prop :=
  0 < l.length → ∃ b o, A = some ⟨b, o, none⟩ ∧ ∀ i (h : i < l.length), w.cell? ⟨b, o + i * 2, none⟩ = some (.string ⟨l[i].v.toArray⟩) ∧ w.cell? ⟨b, o + i * 2 + 1, none⟩ = some (.bool l[i].desc)
def RulsAt (w : World) (A : Option Addr) (l : List Rul) : Prop :=
  0 < l.length → ∃ b o, A = some ⟨b, o, none⟩ ∧ ∀ i (h : i < l.length), ∃ T c T' c', w.cell? ⟨b, o + i * 2, none⟩ = some (.slice T l[i].atoms.length c) ∧ w.cell? ⟨b, o + i * 2 + 1, none⟩ = some (.slice T' l[i].conds.length c') ∧ AtmsAt w T l[i].atoms ∧ CndsAt w T' l[i].conds ∧ l[i].atoms.length ≤ c ∧ l[i].conds.length ≤ c' ∧ l[i].atoms.length ≤ 9223372036854775807 ∧ l[i].conds.length ≤ 9223372036854775807

section
variable {w w' : World} {A : Option Addr}
theorem NmsAt.below {l : List Str} (h : NmsAt w A l) (hb : Below w.heap.size w w') : NmsAt w' A l := fun hp => by
  obtain ⟨b, o, e, hc⟩ := h hp
  exact ⟨b, o, e, fun i hi => cell_keep hb (hc i hi)⟩
theorem TrmsAt.below {l : List Trm} (h : TrmsAt w A l) (hb : Below w.heap.size w w') : TrmsAt w' A l := fun hp => by
  obtain ⟨b, o, e, hc⟩ := h hp
  refine ⟨b, o, e, fun i hi => ?_⟩
  obtain ⟨h0, h1, h2, h3⟩ := hc i hi
  exact ⟨cell_keep hb h0, cell_keep hb h1, cell_keep hb h2, cell_keep hb h3⟩
theorem AtmsAt.below {l : List Atm} (h : AtmsAt w A l) (hb : Below w.heap.size w w') : AtmsAt w' A l := fun hp => by
  obtain ⟨b, o, e, hc⟩ := h hp
  refine ⟨b, o, e, fun i hi => ?_⟩
  obtain ⟨T, c, h0, h1, h2, h3, h4, h5⟩ := hc i hi
  exact ⟨T, c, cell_keep hb h0, cell_keep hb h1, cell_keep hb h2, h3.below hb, h4, h5⟩
theorem CndsAt.below {l : List Cnd} (h : CndsAt w A l) (hb : Below w.heap.size w w') : CndsAt w' A l := fun hp => by
  obtain ⟨b, o, e, hc⟩ := h hp
  refine ⟨b, o, e, fun i hi => ?_⟩
  obtain ⟨h0, h1, h2, h3, h4⟩ := hc i hi
  exact ⟨cell_keep hb h0, cell_keep hb h1, cell_keep hb h2, cell_keep hb h3, cell_keep hb h4⟩
theorem KysAt.below {l : List Ky} (h : KysAt w A l) (hb : Below w.heap.size w w') : KysAt w' A l := fun hp => by
  obtain ⟨b, o, e, hc⟩ := h hp
  refine ⟨b, o, e, fun i hi => ?_⟩
  obtain ⟨h0, h1⟩ := hc i hi
  exact ⟨cell_keep hb h0, cell_keep hb h1⟩
theorem RulsAt.below {l : List Rul} (h : RulsAt w A l) (hb : Below w.heap.size w w') : RulsAt w' A l := fun hp => by
  obtain ⟨b, o, e, hc⟩ := h hp
  refine ⟨b, o, e, fun i hi => ?_⟩
  obtain ⟨T, c, T', c', h0, h1, h2, h3, h4⟩ := hc i hi
  exact ⟨T, c, T', c', cell_keep hb h0, cell_keep hb h1, h2.below hb, h3.below hb, h4⟩
theorem NmsAt.nil : NmsAt w A [] := fun h => absurd h (by simp)
theorem TrmsAt.nil : TrmsAt w A [] := fun h => absurd h (by simp)
theorem AtmsAt.nil : AtmsAt w A [] := fun h => absurd h (by simp)
theorem CndsAt.nil : CndsAt w A [] := fun h => absurd h (by simp)
theorem KysAt.nil : KysAt w A [] := fun h => absurd h (by simp)
theorem RulsAt.nil : RulsAt w A [] := fun h => absurd h (by simp)
end
end

/-! ### Ast5 -/
section
open Go.RowKit

/-- The ways of a byte at the place k of a name. -/
theorem okAt_ways (k : Nat) (c : UInt8) : (okAt k c = true ∧ 97 ≤ c.toNat ∧ c.toNat ≤ 122) ∨ (okAt k c = true ∧ 65 ≤ c.toNat ∧ c.toNat ≤ 90) ∨
    (okAt k c = true ∧ 0 < k ∧ c.toNat = 95) ∨ (okAt k c = true ∧ 0 < k ∧ 48 ≤ c.toNat ∧ c.toNat ≤ 57) ∨
    (okAt k c = false ∧ k = 0 ∧ (c.toNat < 65 ∨ (90 < c.toNat ∧ c.toNat < 97) ∨ 122 < c.toNat)) ∨
    (okAt k c = false ∧ 0 < k ∧ c.toNat ≠ 95 ∧ (c.toNat < 48 ∨ (57 < c.toNat ∧ c.toNat < 65) ∨ (90 < c.toNat ∧ c.toNat < 97) ∨ 122 < c.toNat)) := by
  have e95 : (c == 95) = decide (c.toNat = 95) := by
    by_cases h : c = 95
    · subst h; rfl
    · have h2 : ¬ c.toNat = 95 := fun e => h (UInt8.toNat.inj e)
      simp [h, h2]
  unfold okAt letQ
  rw [e95]
  simp only [Bool.or_eq_true, Bool.and_eq_true, decide_eq_true_eq, Bool.or_eq_false_iff, Bool.and_eq_false_iff, decide_eq_false_iff_not]
  omega

set_option maxRecDepth 100000 in
set_option maxHeartbeats 4000000 in
theorem cat_valid (s : ByteArray) (w : World) {x : Bool} (hx : catB s.data.toList = x) :
    Calls Tryz.prog 86 #[.string s] w fun e w' => e = .returned (.bool x) ∧ w = w' := by
  have hll : s.data.toList.length = s.size := by simp
  rw [catB_from, hll] at hx
  by_cases h0 : 0 < s.size
  · have he : s.toList.isEmpty = false := by
      rw [Lib.toList_data]
      cases hd : s.data.toList with
      | nil => rw [hd] at hll; simp at hll; omega
      | cons a l => rfl
    by_cases h16 : s.size ≤ 16
    · have HX : Hid (catFrom 0 (s.data.toList.drop 0) = x) := hid (by rw [← hx]; simp [h0, h16])
      clear hx
      go_enter Tryz.func86, Tryz.ntmps86
      go_wp2
      go_loop [15] (fun i => ∃ k : Nat, k ≤ s.size ∧ i = .int .i64 k ∧ Hid (catFrom k (s.data.toList.drop k) = x)) (fun i => s.size - (intOf i).toNat)
      case atStart => exact ⟨0, by omega, rfl, HX⟩
      case round =>
        obtain ⟨k, hk, rfl, HK⟩ := hrel
        clear HX
        by_cases hlt : k < s.size
        · have hlt' : k < s.data.toList.length := by simpa using hlt
          have hget : s.data.toList[k] = s[k] := by rw [Array.getElem_toList]; rfl
          have hon := fun h => catFrom_on hlt' h
          have hbad := fun h => catFrom_bad hlt' h
          rw [hget] at hon hbad
          have hb := s[k].toNat_lt
          rcases okAt_ways k s[k] with ⟨h, h1, h2⟩ | ⟨h, h1, h2⟩ | ⟨h, h1, h2⟩ | ⟨h, h1, h2, h3⟩ | ⟨h, h1, h2⟩ | ⟨h, h1, h3, h2⟩
          · have HN : Hid (catFrom (k + 1) (s.data.toList.drop (k + 1)) = x) := hid ((hon h).symm.trans HK.out)
            clear hon hbad h HK hget
            go_wp2
            go_round
            case rel => exact ⟨k + 1, by omega, by go_num, HN⟩
            case measure => simp [intOf]; omega
          · have HN : Hid (catFrom (k + 1) (s.data.toList.drop (k + 1)) = x) := hid ((hon h).symm.trans HK.out)
            clear hon hbad h HK hget
            go_wp2
            go_round
            case rel => exact ⟨k + 1, by omega, by go_num, HN⟩
            case measure => simp [intOf]; omega
          · have HN : Hid (catFrom (k + 1) (s.data.toList.drop (k + 1)) = x) := hid ((hon h).symm.trans HK.out)
            have b95 : ((s[k].toNat : Int) != 95) = false := by rw [bne_eq_false_iff_eq]; omega
            have bk : ((k : Int) == 0) = false := by rw [beq_eq_false_iff_ne]; omega
            have h5 : 90 < s[k].toNat := by omega
            have h6 : s[k].toNat < 97 := by omega
            clear hon hbad h HK hget h2
            go_wp2
            go_round
            case rel => exact ⟨k + 1, by omega, by go_num, HN⟩
            case measure => simp [intOf]; omega
          · have HN : Hid (catFrom (k + 1) (s.data.toList.drop (k + 1)) = x) := hid ((hon h).symm.trans HK.out)
            have b95 : ((s[k].toNat : Int) != 95) = true := by rw [bne_iff_ne]; omega
            have bk : ((k : Int) == 0) = false := by rw [beq_eq_false_iff_ne]; omega
            clear hon hbad h HK hget
            go_wp2
            go_round
            case rel => exact ⟨k + 1, by omega, by go_num, HN⟩
            case measure => simp [intOf]; omega
          · have hx : false = x := (hbad h).symm.trans HK.out
            subst hx
            have bk : ((k : Int) == 0) = true := by rw [beq_iff_eq]; omega
            clear hon hbad h HK hget h1
            rcases h2 with h2 | ⟨h2, h4⟩ | h2
            all_goals
              try (have d90 : decide ((s[k].toNat : Int) ≤ 90) = false := decide_eq_false (by omega))
              try (have d122 : decide ((s[k].toNat : Int) ≤ 122) = false := decide_eq_false (by omega))
              go_wp2
              go_ret
              exact ⟨rfl, rfl⟩
          · have hx : false = x := (hbad h).symm.trans HK.out
            subst hx
            have b95 : ((s[k].toNat : Int) != 95) = true := by rw [bne_iff_ne]; omega
            have bk : ((k : Int) == 0) = false := by rw [beq_eq_false_iff_ne]; omega
            clear hon hbad h HK hget h3
            rcases h2 with h2 | ⟨h2, h4⟩ | ⟨h2, h4⟩ | h2
            all_goals
              try (have d90 : decide ((s[k].toNat : Int) ≤ 90) = false := decide_eq_false (by omega))
              try (have d122 : decide ((s[k].toNat : Int) ≤ 122) = false := decide_eq_false (by omega))
              go_wp2
              go_ret
              exact ⟨rfl, rfl⟩
        · have hx : true = x := (catFrom_end (by simpa using hlt)).symm.trans HK.out
          subst hx
          clear HK
          go_wp2
          go_ret
          exact ⟨rfl, rfl⟩
    · have hx : x = false := by rw [← hx]; simp [h16]
      subst hx
      go_enter Tryz.func86, Tryz.ntmps86
      go_wp2
      go_ret
      exact ⟨rfl, rfl⟩
  · have he : s.toList.isEmpty = true := by
      rw [Lib.toList_data]
      have : s.data.toList = [] := List.eq_nil_of_length_eq_zero (by rw [hll]; omega)
      rw [this]; rfl
    have hx : x = false := by rw [← hx]; simp [h0]
    subst hx
    clear hll
    go_enter Tryz.func86, Tryz.ntmps86
    go_wp2
    go_ret
    exact ⟨rfl, rfl⟩

theorem tl_mk (l : Str) : (⟨l.toArray⟩ : ByteArray).toList = l := by rw [Lib.toList_data]
theorem beq_list (a b : Str) : (a == b) = decide (a = b) := by
  by_cases h : a = b <;> simp [h]

set_option maxRecDepth 100000 in
set_option maxHeartbeats 2000000 in
theorem ast_valid (l : Str) (w : World) {x : Bool} (hx : nameB l = x) :
    Calls Tryz.prog 57 #[.string ⟨l.toArray⟩] w fun e w' => e = .returned (.bool x) ∧ w = w' := by
  obtain ⟨s, hs⟩ : ∃ s : ByteArray, s = ⟨l.toArray⟩ := ⟨_, rfl⟩
  have hl : s.data.toList = l := by rw [hs]
  rw [← hs]
  clear hs
  subst hl
  have tl : s.data.toList = s.toList := (Lib.toList_data s).symm
  obtain ⟨y, hy⟩ : ∃ y, catB s.data.toList = y := ⟨_, rfl⟩
  have HV := fun W => hid (cat_valid s W hy)
  unfold nameB keyQ at hx
  rw [hy, tl] at hx
  clear hy tl
  simp only [List.contains_cons, List.contains_nil, Bool.or_false] at hx
  cases b1 : (s.toList == [99, 111, 117, 110, 116])
  · cases b2 : (s.toList == [100, 101, 115, 99])
    · cases b3 : (s.toList == [109, 97, 120])
      · cases b4 : (s.toList == [109, 105, 110])
        · cases b5 : (s.toList == [110, 111, 116])
          · cases b6 : (s.toList == [111, 114, 100, 101, 114])
            · cases b7 : (s.toList == [115, 117, 109])
              · rw [b1, b2, b3, b4, b5, b6, b7] at hx
                have hx : y = x := by simpa using hx
                subst hx
                go_enter Tryz.func57, Tryz.ntmps57
                go_wp2_with fail
                refine (HV _).out.mono ?_
                rintro e w1 ⟨rfl, rfl⟩
                go_wp2
                go_ret
                exact ⟨rfl, rfl⟩
              all_goals
                have hx : x = false := by rw [← hx, b7]; simp
                subst hx
                clear HV
                go_enter Tryz.func57, Tryz.ntmps57
                go_wp2
                go_ret
                exact ⟨rfl, rfl⟩
            all_goals
              have hx : x = false := by rw [← hx, b6]; simp
              subst hx
              clear HV
              go_enter Tryz.func57, Tryz.ntmps57
              go_wp2
              go_ret
              exact ⟨rfl, rfl⟩
          all_goals
            have hx : x = false := by rw [← hx, b5]; simp
            subst hx
            clear HV
            go_enter Tryz.func57, Tryz.ntmps57
            go_wp2
            go_ret
            exact ⟨rfl, rfl⟩
        all_goals
          have hx : x = false := by rw [← hx, b4]; simp
          subst hx
          clear HV
          go_enter Tryz.func57, Tryz.ntmps57
          go_wp2
          go_ret
          exact ⟨rfl, rfl⟩
      all_goals
        have hx : x = false := by rw [← hx, b3]; simp
        subst hx
        clear HV
        go_enter Tryz.func57, Tryz.ntmps57
        go_wp2
        go_ret
        exact ⟨rfl, rfl⟩
    all_goals
      have hx : x = false := by rw [← hx, b2]; simp
      subst hx
      clear HV
      go_enter Tryz.func57, Tryz.ntmps57
      go_wp2
      go_ret
      exact ⟨rfl, rfl⟩
  all_goals
    have hx : x = false := by rw [← hx, b1]; simp
    subst hx
    clear HV
    go_enter Tryz.func57, Tryz.ntmps57
    go_wp2
    go_ret
    exact ⟨rfl, rfl⟩
end
end Go.Proofs.YtnbacdmlaedppaaGreatDoor
