/-
  PARTS of a claim, merged by segs.py: Kit, Law, OpenV, Info, Val, Text, Laid, Kit3.
-/
import Derived.Test.YtjhnopnppimnhaaGreatDoorRows
import Derived.Test.YtjhnopnppimnhaaGreatDoorZ01
import Derived.Test.YtjhnopnppimnhaaGreatDoorProg
import Derived.Test.YtjhnopnppimnhaaGreatDoorShelf
import Derived.WalkKit
import Derived.WalkSpells
import Derived.WalkLawsBesides
import Derived.Lib.UnsafeStr
import Derived.Laws.IdiomStrings
import Derived.ProofKit
import Derived.OpenShut
import Derived.Deep.Slices
import Derived.Deep.DeepHandedRow
import Derived.Lib.LaidTab
import Derived.WideKeyArgs
import Derived.OwnWalk
import Derived.KernelRfl
import Derived.RegionTactic
import Derived.StillTailTactics
import Derived.Deep.RegionLaw
import Derived.Lib.AppendIntMem
import Derived.MakeChecks
import Derived.WalkSmall
import Derived.BigQuiet
namespace Go.Proofs.YtjhnopnppimnhaaGreatDoor

/-! ### Kit -/
section
open Go.RowKit

theorem hid {p : Prop} (h : p) : Hid p := h
theorem ret_i {k : IntKind} {a b : Int} (h : a = b) : Ending.returned (.int k a) = .returned (.int k b) := by rw [h]
theorem ret_b {a b : Bool} (h : a = b) : Ending.returned (.bool a) = .returned (.bool b) := by rw [h]

theorem ret_s {a b : List UInt8} (h : a = b) : Ending.returned (.string ⟨a.toArray⟩) = .returned (.string ⟨b.toArray⟩) := by rw [h]
theorem below_one (w : World) (o1 : Obj) : Below w.heap.size w (w.alloc o1) := (Below.refl _ _).alloc (Nat.le_refl _) _
theorem below_two (w : World) (o1 o2 : Obj) : Below w.heap.size w ((w.alloc o1).alloc o2) := (below_one w o1).alloc (by simp) _
theorem below_three (w : World) (o1 o2 o3 : Obj) : Below w.heap.size w (((w.alloc o1).alloc o2).alloc o3) := (below_two w o1 o2).alloc (by simp; omega) _
theorem below_drewN {B : Nat} {a w : World} (h : Below B a w) (n : Nat) : Below B a (w.drewN n) := ⟨h.os, h.tape, h.output, h.size, h.block⟩

/-- 'append(out, x, ..)': what is appended has just been laid in a block of its own; out is nil or the call's own. -/
theorem wpList_append_new {P : Program} {w0 : World} {news : List Value} {ops : Array Oper} {rest : List Oper} {o : Oper} {a : Act} {Q : Exit → Act → World → Prop} {t e : TypeId} {i : TypeInfo} {z : Value} {size bytes : Nat}
    (ht : P.underlying t = some (.slice e)) (hi : P.info? e = some i) (hz : i.zero = some z) (hsize : i.size = size) (hby : i.bytes = bytes) (hzs : z.cells.size = size) (hsz : 0 < size) (hb1 : 0 < bytes)
    (hgd : o.guard = none) {s x : Operand} (ho : o.op = .call { callee := .builtin .append, args := #[s, x], argTypes := #[t, t] })
    {base : Nat} {v : Value} {n : Nat} {xs : List Value} (hs : a.eval s = v) (hown : w0.ownsRow base e size v n xs) {m c : Nat} (hx : a.eval x = .slice (some ⟨w0.heap.size, 0, none⟩) m c)
    (hl : news.length = m * size) (h1 : news.all (·.oneCell') = true) (hlim : (n + m) * bytes ≤ 140737488355328) (hbase : base ≤ w0.heap.size)
    (h : ∀ v' w', w'.ownsRow base e size v' (n + m) (xs ++ news) → w0.grownBy w' v.ownBlock → wpList P ops Q rest (a.put o.dst v') w') : wpList P ops Q (o :: rest) a (w0.alloc (.cells news.toArray e)) := by
  have h63 : n + m ≤ maxLen := by
    have := Nat.le_mul_of_pos_right (n + m) hb1
    simp only [maxLen]; omega
  refine wpList_append_own _ hgd s x t ho base e i z size bytes ht hi hz hsize hby hzs hsz v n xs hs (hown.alloc _) ⟨w0.heap.size, 0, none⟩ m c news hx hl ?_ (by simpa [List.all_eq_true] using h1) h63 hlim (by simp; omega) ?_
  · intro j u hu
    have hc : (w0.alloc (.cells news.toArray e)).heap[w0.heap.size]? = some (.cells news.toArray e (0, 0)) := heap_alloc_new w0 _
    have : Addr.add ⟨w0.heap.size, 0, none⟩ j = ⟨w0.heap.size, j, none⟩ := by unfold Addr.add; by_cases hj : j = 0 <;> simp [hj]
    rw [this, cell_of_row _ w0.heap.size j _ e (0, 0) hc]
    simpa using hu
  · intro v' w' h2 h3 _
    exact h v' w' h2 ⟨h3.os, h3.tape, h3.output, Nat.le_trans (by simp) h3.size, fun k hk hne => (h3.block k (by simp; omega) hne).trans (Below.heap_alloc _ _ _ hk)⟩

/-- The same as one step of a region that draws its order. -/
theorem step_append_new {P : Program} {w0 : World} {news : List Value} {ops : Array Oper} {o : Oper} {a : Act} {K : Act → World → Prop} {Q : Exit → Act → World → Prop} {E : Prop} {t e : TypeId} {i : TypeInfo} {z : Value} {size bytes : Nat}
    (ht : P.underlying t = some (.slice e)) (hi : P.info? e = some i) (hz : i.zero = some z) (hsize : i.size = size) (hby : i.bytes = bytes) (hzs : z.cells.size = size) (hsz : 0 < size) (hb1 : 0 < bytes)
    (hgd : o.guard = none) {s x : Operand} (ho : o.op = .call { callee := .builtin .append, args := #[s, x], argTypes := #[t, t] })
    {base : Nat} {v : Value} {n : Nat} {xs : List Value} (hs : a.eval s = v) (hown : w0.ownsRow base e size v n xs) {m c : Nat} (hx : a.eval x = .slice (some ⟨w0.heap.size, 0, none⟩) m c)
    (hl : news.length = m * size) (h1 : news.all (·.oneCell') = true) (hlim : (n + m) * bytes ≤ 140737488355328) (hbase : base ≤ w0.heap.size)
    (h : ∀ v' w', w'.ownsRow base e size v' (n + m) (xs ++ news) → w0.grownBy w' v.ownBlock → K (a.put o.dst v') w') :
    if Region.wanted o (yielded ops a.tmps) = true then Oper.wp P o a (w0.alloc (.cells news.toArray e)) K Q else E := by
  have hw : Region.wanted o (yielded ops a.tmps) = true := by simp [Region.wanted, hgd]
  rw [if_pos hw]
  have h63 : n + m ≤ maxLen := by
    have := Nat.le_mul_of_pos_right (n + m) hb1
    simp only [maxLen]; omega
  refine wp_append_own _ s x t ho base e i z size bytes ht hi hz hsize hby hzs hsz v n xs hs (hown.alloc _) ⟨w0.heap.size, 0, none⟩ m c news hx hl ?_ (by simpa [List.all_eq_true] using h1) h63 hlim (by simp; omega) ?_
  · intro j u hu
    have hc : (w0.alloc (.cells news.toArray e)).heap[w0.heap.size]? = some (.cells news.toArray e (0, 0)) := heap_alloc_new w0 _
    have : Addr.add ⟨w0.heap.size, 0, none⟩ j = ⟨w0.heap.size, j, none⟩ := by unfold Addr.add; by_cases hj : j = 0 <;> simp [hj]
    rw [this, cell_of_row _ w0.heap.size j _ e (0, 0) hc]
    simpa using hu
  · intro v' w' h2 h3 _
    exact h v' w' h2 ⟨h3.os, h3.tape, h3.output, Nat.le_trans (by simp) h3.size, fun k hk hne => (h3.block k (by simp; omega) hne).trans (Below.heap_alloc _ _ _ hk)⟩

theorem step_append_new_drew {P : Program} {w0 : World} {news : List Value} {ops : Array Oper} {o : Oper} {a : Act} {K : Act → World → Prop} {Q : Exit → Act → World → Prop} {E : Prop} {t e : TypeId} {i : TypeInfo} {z : Value} {size bytes : Nat}
    (ht : P.underlying t = some (.slice e)) (hi : P.info? e = some i) (hz : i.zero = some z) (hsize : i.size = size) (hby : i.bytes = bytes) (hzs : z.cells.size = size) (hsz : 0 < size) (hb1 : 0 < bytes)
    (hgd : o.guard = none) {s x : Operand} (ho : o.op = .call { callee := .builtin .append, args := #[s, x], argTypes := #[t, t] })
    {base : Nat} {v : Value} {n : Nat} {xs : List Value} (hs : a.eval s = v) (hown : w0.ownsRow base e size v n xs) {m c : Nat} (hx : a.eval x = .slice (some ⟨w0.heap.size, 0, none⟩) m c)
    (hl : news.length = m * size) (h1 : news.all (·.oneCell') = true) (hlim : (n + m) * bytes ≤ 140737488355328) (hbase : base ≤ w0.heap.size)
    (h : ∀ v' w', w'.ownsRow base e size v' (n + m) (xs ++ news) → w0.drew.grownBy w' v.ownBlock → K (a.put o.dst v') w') :
    if Region.wanted o (yielded ops a.tmps) = true then Oper.wp P o a (w0.alloc (.cells news.toArray e)).drew K Q else E :=
  step_append_new (w0 := w0.drew) ht hi hz hsize hby hzs hsz hb1 hgd ho hs hown.drew hx hl h1 hlim hbase h

/-- What such an append leaves: below 'base' nothing has turned. -/
theorem grown_below {w w' : World} {base : Nat} {e : TypeId} {size n : Nat} {v : Value} {xs : List Value} (hown : w.ownsRow base e size v n xs) (hg : w.grownBy w' v.ownBlock) (hb : base ≤ w.heap.size) : Below base w w' :=
  (Below.refl _ _).grown hg hb (fun k hk => (hown.lt k hk).1)

/-- 'string(b)' of a slice of bytes of the call's own. -/
theorem run_own_to_string {P : Program} {w : World} {src dst e : TypeId} (hs : P.underlying src = some (.slice e)) (he : P.underlying e = some (.int .u8)) (hd : P.underlying dst = some .string)
    {base : Nat} {v : Value} (l : List UInt8) (hown : w.ownsRow base e 1 v l.length (Lib.byteCells l)) : (convert src dst v).run P w = .ok (.string ⟨l.toArray⟩) w := by
  rcases hown.2 with ⟨rfl, h0⟩ | ⟨g, cap, cur, rfl, hg, hh, hn, hm, hcs, ht⟩
  · have : l = [] := List.eq_nil_of_length_eq_zero h0
    subst this
    simp [convert, run_underlying hs, run_underlying hd, run_underlying he, Conv.bytesToString]
    rfl
  · refine run_convert_bytes_back w src dst e ⟨g, 0, none⟩ cap l hs he hd fun j hj => ?_
    exact hown.cells (g := g) rfl j (.int .u8 l[j].toNat) (by simp [Lib.byteCells, hj])

theorem u8_and15 (x : Nat) (h : x < 256) : bits .and .u8 (x : Int) 15 = (x : Int) % 16 := by
  have : ∀ x : Fin 256, bits .and .u8 (x.val : Int) 15 = (x.val : Int) % 16 := by decide +kernel
  exact this ⟨x, h⟩

theorem hex_index (q : Nat) (h : q < 16) (h' : ((q : Int)).toNat < (ByteArray.mk #[48, 49, 50, 51, 52, 53, 54, 55, 56, 57, 97, 98, 99, 100, 101, 102]).size) (f : Nat → UInt8) (hf : ∀ q < 16, f q = (ByteArray.mk #[48, 49, 50, 51, 52, 53, 54, 55, 56, 57, 97, 98, 99, 100, 101, 102]).data[q]!) :
    (ByteArray.mk #[48, 49, 50, 51, 52, 53, 54, 55, 56, 57, 97, 98, 99, 100, 101, 102])[((q : Int)).toNat] = f q := by
  rw [hf q h]
  have hb : ∀ q : Fin 16, (ByteArray.mk #[48, 49, 50, 51, 52, 53, 54, 55, 56, 57, 97, 98, 99, 100, 101, 102])[q.val]'(by have := q.isLt; exact this) = (ByteArray.mk #[48, 49, 50, 51, 52, 53, 54, 55, 56, 57, 97, 98, 99, 100, 101, 102]).data[q.val]! := by decide
  exact hb ⟨q, h⟩

/-- A contract's result behind one letter. -/
theorem calls_below {P : Program} {f : FuncId} {args : Array Value} {w w1 : World} {e0 : Ending} (hb : Below w.heap.size w w1)
    (h : Calls P f args w1 fun e w' => e = e0 ∧ Below w1.heap.size w1 w') : Calls P f args w1 fun e w' => e = e0 ∧ Below w.heap.size w w' :=
  h.mono fun _ _ ⟨he, hb'⟩ => ⟨he, hb.trans (hb'.mono hb.size)⟩

theorem cell_lt {w : World} {p : Addr} {v : Value} (h : w.cell? p = some v) : p.block < w.heap.size := by
  unfold World.cell? at h
  cases hq : w.heap[p.block]? with
  | none => rw [hq] at h; cases h
  | some o => exact (Array.getElem?_eq_some_iff.1 hq).1

end

/-! ### Law -/
section
open Go.ChangeShapes Go.WideShapes Go.ChangeAt Go.RowKit

section
variable {H : Type} {enc : TypeId × Value → H} {P : Program}

/-- The arguments read behind the call as before it. -/
theorem trodAll_keep (hl : laidOutB P = true) {W W' : World} (hb : Below W.heap.size W W') {sp : Nat → Bool} :
    ∀ {ts : List TypeId} {vs : List Value} {ds : List (DataW H)} {ps : List MemPlace}, (∀ t ∈ ts, P.readableRec t = true ∧ t < P.types.size) → DataW.TrodAll enc P W 0 (fun _ => true) true ts vs ds ps →
      (∀ p ∈ ps, p.block < W.heap.size) → (∀ p ∈ ps, sp p.block = true) → DataW.TrodAll enc P W' 0 sp true ts vs ds ps
  | [], [], [], _, _, h, _, _ => h
  | t :: ts, v :: vs, d :: ds, _, hr, h, hlt, hsp => by
    obtain ⟨p, q, h1, h2, rfl⟩ := h
    obtain ⟨hr1, hr2⟩ := hr t (by simp)
    exact ⟨p, q, WideElems.Trod_stays hl hr1 hr2 h1 (fun x hx => hb.same (hlt x (by simp [hx]))) (fun x hx => hsp x (by simp [hx])),
      trodAll_keep hl hb (fun t ht => hr t (by simp [ht])) h2 (fun x hx => hlt x (by simp [hx])) (fun x hx => hsp x (by simp [hx])), rfl⟩
  | [], _ :: _, _, _, _, h, _, _ => h.elim
  | [], [], _ :: _, _, _, h, _, _ => h.elim
  | _ :: _, [], _, _, _, h, _, _ => h.elim
  | _ :: _, _ :: _, [], _, _, h, _, _ => h.elim

theorem post_of_below {f : Func} {s : ChangeSpec} {apart fresh handsOn again : Bool} {W W' : World} {args : Array Value} {v : Value} {ds gs : List (DataW H)} {before pa pv : List MemPlace}
    (hW : DataW.Whole enc P f.params.toList s.vars apart W args.toList ds gs before)
    (hres : ∀ (b : Nat) (sp : Nat → Bool) (hd : Bool), DataW.TrodAll enc P W' b sp hd f.resultTypes.toList (v.resultList f.resultTypes.size) (s.fn H (ds ++ gs)).results [])
    (hargs : ∀ sp : Nat → Bool, (∀ p ∈ before, sp p.block = true) → DataW.TrodAll enc P W' 0 sp true f.params.toList args.toList (s.fn H (ds ++ gs)).args pa)
    (hvars : ∀ sp : Nat → Bool, (∀ p ∈ before, sp p.block = true) → DataW.TrodVars enc P W' sp s.vars (s.fn H (ds ++ gs)).vars pv)
    (hps : before = pa ++ pv) (hb : Below W.heap.size W W')
    (hok : ∀ (j : Nat) (t : TypeId) (r : Value), f.resultTypes[j]? = some t → (v.resultList f.resultTypes.size)[j]? = some r → Value.okWide P W' .any 0 t r) :
    s.post enc P f apart fresh handsOn again W args v W' := by
  have hlt : ∀ p ∈ before, p.block < W.heap.size := fun p hp => hW.lt p hp
  have hold : ∀ p ∈ before, (fun b => decide (b < W.heap.size)) p.block = true := fun p hp => by simpa using hlt p hp
  refine ⟨ds, gs, before, [], pa, pv, hW, hres _ _ _, hargs _ hold, hvars _ hold, World.keptBut_mono (fun p hp => ⟨hp, ?_⟩) (hb.frame (· ∈ before)), fun _ => ?_⟩
  · rw [hps, List.mem_append] at hp
    exact Or.inr hp
  · obtain ⟨_, _, _, _, _, hz, hn⟩ := hW
    refine ⟨hok, _, _, ([] ++ pa) ++ pv, ⟨[] ++ pa, pv, trodAll_append (hargs _ (fun _ _ => rfl)) (hres _ _ _), hvars _ (fun _ _ => rfl), rfl, ?_, ?_⟩, ?_⟩
    · intro b off hp
      have hin : MemPlace.cell b off ∈ before := by rw [hps]; simpa using hp
      rw [hb.frozen (hlt _ hin)]
      exact hz b off hin
    · intro ha
      have := hn ha
      rw [hps] at this
      simpa using this
    · intro p hp _
      rw [hps]
      simpa using hp

/-- A law's end. -/
theorem law_close (hl : laidOutB P = true) {f : Func} {s : ChangeSpec} {tb : TypeId} (htb : P.underlying tb = some .bool) (hres : f.resultTypes = #[tb]) (hvars : s.vars = []) (hrd : ∀ t ∈ f.params.toList, P.readableRec t = true ∧ t < P.types.size)
    {fresh handsOn again : Bool} {W W' : World} {args : Array Value} {ds gs : List (DataW H)} {before : List MemPlace} (hspec : s.fn H (ds ++ gs) = { results := [.lit (.bool true)], args := ds })
    (hW : DataW.Whole enc P f.params.toList s.vars false W args.toList ds gs before) (hb : Below W.heap.size W W') : s.post enc P f false fresh handsOn again W args (.bool true) W' := by
  have hlt : ∀ p ∈ before, p.block < W.heap.size := fun p hp => hW.lt p hp
  have hW' := hW
  obtain ⟨p, q, hA, hV, rfl, _, _⟩ := hW
  have hV' := hV
  rw [hvars] at hV'
  obtain ⟨rfl, rfl⟩ := trodVars_none hV'
  refine post_of_below (pa := p) (pv := []) hW' (fun _ _ _ => ?_) (fun sp hsp => ?_) (fun _ _ => ?_) rfl hb (fun j t r ht hr => ?_)
  · rw [hspec, hres]; exact trodAll_mk1 (shut_bool htb true)
  · rw [hspec]; exact trodAll_keep hl hb hrd hA (fun x hx => hlt x (by simp [hx])) (fun x hx => hsp x (by simp [hx]))
  · rw [hspec, hvars]; rfl
  · rw [hres] at ht hr
    match j, ht, hr with
    | 0, ht, hr =>
      simp at ht
      subst ht
      simp [Value.resultList] at hr
      subst hr
      exact okWide_bool_mk htb _
    | j + 1, ht, _ => simp at ht

end
end

/-! ### OpenV -/
section
open Go.ChangeShapes Go.WideShapes Go.ChangeAt Go.RowKit Go.Deep

/-- A value as an argument can bear it. -/
structure V.wf (v : V) : Prop where
  k : I64 v.k
  n : I64 v.n
  s : v.s.size ≤ 9223372036854775807

instance : Inhabited V := ⟨⟨0, 0, ⟨#[]⟩⟩⟩

theorem i64_of {n : Int} (h : (Lit.int .i64 n).wf = true) : I64 n := by
  simp [Lit.wf, IntKind.min, IntKind.max, IntKind.signed, IntKind.bits] at h
  unfold I64
  omega

section
variable {H : Type} {enc : TypeId × Value → H} {w : World} {base : Nat} {sp : Nat → Bool} {held : Bool}

set_option maxRecDepth 100000 in
theorem trod_V {n : Nat} {cs : List Value} {x : DataW H × List MemPlace} (h : DataW.trod enc Tryz.prog w base sp held n 67 cs = some x) :
    ∃ v : V, v.wf ∧ cs = [.int .i64 v.k, .int .i64 v.n, .string v.s] := by
  obtain ⟨xs, m, _, _, hcl, hxl, hf⟩ := DataW.trod_struct Tryz.underlying67 h
  have hc3 : Tryz.prog.cellsOf 67 = 3 := by kernel_rfl
  rw [hc3] at hcl
  match cs, hcl, xs, hxl with
  | [c0, c1, c2], _, [y0, y1, y2], _ =>
    have h0 := hf 0 _ rfl
    have h1 := hf 1 _ rfl
    have h2 := hf 2 _ rfl
    simp only [List.getElem?_cons_zero, List.getElem?_cons_succ] at h0 h1 h2
    obtain ⟨k, e0, _, w0⟩ := DataW.trod_int Tryz.underlying3 h0
    obtain ⟨q, e1, _, w1⟩ := DataW.trod_int Tryz.underlying2 h1
    obtain ⟨s, e2, _, w2⟩ := DataW.trod_string Tryz.underlying9 h2
    injection e0 with e0
    injection e1 with e1
    injection e2 with e2
    subst e0 e1 e2
    exact ⟨⟨k, q, s⟩, ⟨i64_of w0, i64_of w1, w2⟩, rfl⟩

theorem addr_plain {a : Addr} {v : Value} {j : Nat} (h : w.cell? (a.add j) = some v) : (j = 0 → a.spot = none) ∧ a.add j = ⟨a.block, a.off + j, if j = 0 then a.spot else none⟩ := by
  refine ⟨fun hj => ?_, ?_⟩
  · subst hj
    have : a.add 0 = a := by simp [Addr.add]
    rw [this] at h
    unfold World.cell? at h
    cases hs : a.spot with
    | none => rfl
    | some x =>
      rw [hs] at h
      split at h <;> simp at h
  · unfold Addr.add
    by_cases hj : j = 0
    · subst hj; simp
    · simp [hj]

end
end

/-! ### Info -/
section
open Go.RowKit

theorem infoByte : (Tryz.prog.info? 5).map (fun i => (i.zero, i.size, i.bytes)) = some (some (.int .u8 0), 1, 1) := by kernel_rfl
end

/-! ### Val -/
section
open Go.RowKit

set_option maxHeartbeats 400000 in
theorem value_valid (v : V) (w : World) {x : Bool} (hx : v.valid = x) :
    Calls Tryz.prog 39 #[.agg #[.int .i64 v.k, .int .i64 v.n, .string v.s]] w fun e w' => e = .returned (.bool x) ∧ Below w.heap.size w w' := by
  obtain ⟨k, n, s⟩ := v
  have hb := below_one w (.cells #[.int .i64 k, .int .i64 n, .string s] 67)
  by_cases h1 : k = 1
  · have H : Hid (s.toList.isEmpty = x) := hid (by rw [← hx]; simp [V.valid, h1])
    clear hx
    subst h1
    go_enter Tryz.func39, Tryz.ntmps39
    go_wp2
    go_ret
    exact ⟨ret_b H.out, hb⟩
  · have b1 : (k == 1) = false := by simpa using h1
    by_cases h2 : k = 2
    · by_cases h3 : n = 0
      · have H : Hid (decide (s.size ≤ 24) = x) := hid (by rw [← hx]; simp [V.valid, h2, h3])
        clear hx
        subst h2 h3
        go_enter Tryz.func39, Tryz.ntmps39
        go_wp2
        go_ret
        exact ⟨ret_b (by rw [← H.out]; simp; omega), hb⟩
      · have b3 : (n == 0) = false := by simpa using h3
        have H : Hid (false = x) := hid (by rw [← hx]; simp [V.valid, h2, h3])
        clear hx
        subst h2
        go_enter Tryz.func39, Tryz.ntmps39
        go_wp2
        go_ret
        exact ⟨ret_b H.out, hb⟩
    · have b2 : (k == 2) = false := by simpa using h2
      have H : Hid (false = x) := hid (by rw [← hx]; simp [V.valid, h1, h2])
      clear hx h1 h2
      go_enter Tryz.func39, Tryz.ntmps39
      go_wp2
      go_ret
      exact ⟨ret_b H.out, hb⟩

theorem byteCells_snoc (l : List UInt8) (cs : List UInt8) (x : List Value) (hx : Lib.byteCells cs = x) {w : World} {B : Nat} {v : Value} {m : Nat} (hm : cs.length = m)
    (h : w.ownsRow B 5 1 v (l.length + m) (Lib.byteCells l ++ x)) : w.ownsRow B 5 1 v (l ++ cs).length (Lib.byteCells (l ++ cs)) := by
  subst hx hm; rw [List.length_append, Lib.byteCells_append]; exact h

theorem hexd_eq : ∀ q < 16, hexd q = (ByteArray.mk #[48, 49, 50, 51, 52, 53, 54, 55, 56, 57, 97, 98, 99, 100, 101, 102]).data[q]! := by decide

theorem hexCells (x : Nat) (hx : x < 256) (h1 : ((x : Int) / 16).toNat < (ByteArray.mk #[48, 49, 50, 51, 52, 53, 54, 55, 56, 57, 97, 98, 99, 100, 101, 102]).size) (h2 : ((x : Int) % 16).toNat < (ByteArray.mk #[48, 49, 50, 51, 52, 53, 54, 55, 56, 57, 97, 98, 99, 100, 101, 102]).size) :
    Lib.byteCells [92, 120, hexd (x / 16), hexd (x % 16)] = [.int .u8 92, .int .u8 120, .int .u8 ((ByteArray.mk #[48, 49, 50, 51, 52, 53, 54, 55, 56, 57, 97, 98, 99, 100, 101, 102])[((x : Int) / 16).toNat]).toNat, .int .u8 ((ByteArray.mk #[48, 49, 50, 51, 52, 53, 54, 55, 56, 57, 97, 98, 99, 100, 101, 102])[((x : Int) % 16).toNat]).toNat] := by
  have e1 := hex_index (x / 16) (by omega) (by simpa using h1) hexd hexd_eq
  have e2 := hex_index (x % 16) (by omega) (by simpa using h2) hexd hexd_eq
  simp only [Int.natCast_ediv, Int.natCast_emod, Int.cast_ofNat_Int] at e1 e2
  simp only [Lib.byteCells, List.map_cons, List.map_nil, ← e1, ← e2]
  rfl

set_option maxRecDepth 100000 in
set_option maxHeartbeats 1000000 in
theorem value_quote (s : ByteArray) (w : World) (hs : s.size ≤ 100000) :
    Calls Tryz.prog 40 #[.string s] w fun e w' => e = .returned (.string ⟨(quoteL s.data.toList).toArray⟩) ∧ Below w.heap.size w w' := by
  obtain ⟨i0, hi, hz0, hz1, hz2⟩ := info_parts infoByte
  go_enter Tryz.func40, Tryz.ntmps40
  go_wp2_with (first
    | (at_make; refine wpList_make_own _ rfl _ _ 52 rfl w.heap.size 5 i0 (.int .u8 0) 1 Tryz.underlying52 hi hz0 hz1 _ _ _ (s.size + 2) rfl rfl (by omega) (by rw [hz2]; omega) (by unfold maxLen; omega) (Nat.le_refl _) ?_; intro w1 hown1 hg1)
    | (at_builtin; refine wpList_append_new Tryz.underlying52 hi hz0 hz1 hz2 rfl (by decide) (by decide) rfl rfl rfl hown1 rfl rfl rfl (by omega) (by have := hg1.size; omega) ?_; intro v2 w2 hown2 hg2))
  have hb2 : Below w.heap.size w w2 := ((Below.refl _ _).grown hg1 (Nat.le_refl _) (by simp)).trans (grown_below hown1 hg2 hg1.size)
  have hown2' := byteCells_snoc [] [34] _ rfl rfl hown2
  clear hown1 hg1 hg2 hown2
  go_loopw [3, 15] (fun v i wr => ∃ (k : Nat) (l : List UInt8), k ≤ s.size ∧ i = .int .i64 k ∧ wr.ownsRow w.heap.size 5 1 v l.length (Lib.byteCells l) ∧ l.length ≤ 4 * k + 1 ∧ Hid (l = 34 :: (s.data.toList.take k).flatMap spell) ∧ Below w.heap.size w wr) (fun _ i _ => s.size - (intOf i).toNat)
  case atStart => exact ⟨0, [34], by omega, rfl, hown2', by simp, hid (by simp), hb2⟩
  case round =>
    obtain ⟨k, l, hk, rfl, hown, hlen, HL, hbel⟩ := hrel
    clear hown2' hb2
    by_cases hlt : k < s.size
    · have hsl : (34 :: (s.data.toList.take (k + 1)).flatMap spell) = (34 :: (s.data.toList.take k).flatMap spell) ++ spell s[k] := by
        rw [flatMap_take_succ _ _ _ (by simpa using hlt)]; rfl
      have HS : Hid ((34 :: (s.data.toList.take (k + 1)).flatMap spell) = l ++ spell s[k]) := by rw [HL.out]; exact hid hsl
      clear hsl HL
      have hb : s[k].toNat < 256 := s[k].toNat_lt
      have hcase : (s[k].toNat = 34 ∨ s[k].toNat = 92) ∨ s[k].toNat = 10 ∨ s[k].toNat = 9 ∨ (32 ≤ s[k].toNat ∧ s[k].toNat ≤ 126 ∧ s[k].toNat ≠ 34 ∧ s[k].toNat ≠ 92) ∨ ((s[k].toNat < 32 ∨ 126 < s[k].toNat) ∧ s[k].toNat ≠ 10 ∧ s[k].toNat ≠ 9) := by omega
      rcases hcase with (h | h) | h | h | h | h
      · have HP : Hid (spell s[k] = [92, 34]) := hid (by have e : s[k] = 34 := UInt8.toNat.inj h; rw [e]; rfl)
        go_wp2_with (at_builtin; refine wpList_append_new Tryz.underlying52 hi hz0 hz1 hz2 rfl (by decide) (by decide) rfl rfl rfl hown rfl rfl rfl (by omega) hbel.size ?_; intro v2 w2 hown2 hg2)
        go_roundw
        case rel => exact ⟨k + 1, l ++ [92, 34], by omega, by go_num, byteCells_snoc _ _ _ rfl rfl hown2, by simp; omega, hid (by rw [← HP.out]; exact HS.out.symm), hbel.trans (grown_below hown hg2 hbel.size)⟩
        case measure => simp [intOf]; omega
      · have HP : Hid (spell s[k] = [92, 92]) := hid (by have e : s[k] = 92 := UInt8.toNat.inj h; rw [e]; rfl)
        go_wp2_with (at_builtin; refine wpList_append_new Tryz.underlying52 hi hz0 hz1 hz2 rfl (by decide) (by decide) rfl rfl rfl hown rfl rfl rfl (by omega) hbel.size ?_; intro v2 w2 hown2 hg2)
        go_roundw
        case rel => exact ⟨k + 1, l ++ [92, 92], by omega, by go_num, byteCells_snoc _ _ _ rfl rfl hown2, by simp; omega, hid (by rw [← HP.out]; exact HS.out.symm), hbel.trans (grown_below hown hg2 hbel.size)⟩
        case measure => simp [intOf]; omega
      · have HP : Hid (spell s[k] = [92, 110]) := hid (by unfold spell; rw [if_neg (by omega), if_pos h])
        go_wp2_with (at_builtin; refine wpList_append_new Tryz.underlying52 hi hz0 hz1 hz2 rfl (by decide) (by decide) rfl rfl rfl hown rfl rfl rfl (by omega) hbel.size ?_; intro v2 w2 hown2 hg2)
        go_roundw
        case rel => exact ⟨k + 1, l ++ [92, 110], by omega, by go_num, byteCells_snoc _ _ _ rfl rfl hown2, by simp; omega, hid (by rw [← HP.out]; exact HS.out.symm), hbel.trans (grown_below hown hg2 hbel.size)⟩
        case measure => simp [intOf]; omega
      · have HP : Hid (spell s[k] = [92, 116]) := hid (by unfold spell; rw [if_neg (by omega), if_neg (by omega), if_pos h])
        go_wp2_with (at_builtin; refine wpList_append_new Tryz.underlying52 hi hz0 hz1 hz2 rfl (by decide) (by decide) rfl rfl rfl hown rfl rfl rfl (by omega) hbel.size ?_; intro v2 w2 hown2 hg2)
        go_roundw
        case rel => exact ⟨k + 1, l ++ [92, 116], by omega, by go_num, byteCells_snoc _ _ _ rfl rfl hown2, by simp; omega, hid (by rw [← HP.out]; exact HS.out.symm), hbel.trans (grown_below hown hg2 hbel.size)⟩
        case measure => simp [intOf]; omega
      · obtain ⟨g1, g2, g3, g4⟩ := h
        have HP : Hid (spell s[k] = [s[k]]) := hid (by unfold spell; rw [if_neg (by omega), if_neg (by omega), if_neg (by omega), if_pos ⟨g1, g2⟩])
        have b34 : ((s[k].toNat : Int) == 34) = false := by simp; omega
        have b92 : ((s[k].toNat : Int) == 92) = false := by simp; omega
        have b10 : ((s[k].toNat : Int) == 10) = false := by simp; omega
        have b9 : ((s[k].toNat : Int) == 9) = false := by simp; omega
        go_wp2_with (at_builtin; refine wpList_append_new Tryz.underlying52 hi hz0 hz1 hz2 rfl (by decide) (by decide) rfl rfl rfl hown rfl rfl rfl (by omega) hbel.size ?_; intro v2 w2 hown2 hg2)
        go_roundw
        case rel => exact ⟨k + 1, l ++ [s[k]], by omega, by go_num, byteCells_snoc _ _ _ rfl rfl hown2, by simp; omega, hid (by rw [← HP.out]; exact HS.out.symm), hbel.trans (grown_below hown hg2 hbel.size)⟩
        case measure => simp [intOf]; omega
      · obtain ⟨g1, g2, g3⟩ := h
        have HP : Hid (spell s[k] = [92, 120, hexd (s[k].toNat / 16), hexd (s[k].toNat % 16)]) := hid (by unfold spell; rw [if_neg (by omega), if_neg (by omega), if_neg (by omega), if_neg (by omega)])
        have b34 : ((s[k].toNat : Int) == 34) = false := by simp; omega
        have b92 : ((s[k].toNat : Int) == 92) = false := by simp; omega
        have b10 : ((s[k].toNat : Int) == 10) = false := by simp; omega
        have b9 : ((s[k].toNat : Int) == 9) = false := by simp; omega
        clear g2 g3
        have i0' := u8_and15 s[k].toNat hb
        have i1 : 0 ≤ (s[k].toNat : Int) / 16 := by omega
        have i2 : (s[k].toNat : Int) / 16 < 16 := by omega
        have i3 : 0 ≤ (s[k].toNat : Int) % 16 := by omega
        have i4 : (s[k].toNat : Int) % 16 < 16 := by omega
        rcases g1 with g1 | g1
        all_goals go_wp2_with fail
        all_goals
          go_region_law (refine step_append_new_drew Tryz.underlying52 hi hz0 hz1 hz2 rfl (by decide) (by decide) rfl rfl rfl hown rfl rfl rfl (by omega) hbel.size ?_; intro v2 w2 hown2 hg2)
        all_goals
          go_wp2
          go_roundw
          case rel => exact ⟨k + 1, l ++ [92, 120, hexd (s[k].toNat / 16), hexd (s[k].toNat % 16)], by omega, by go_num, byteCells_snoc _ _ _ (hexCells _ hb _ _) rfl hown2, by simp; omega, hid (by rw [← HP.out]; exact HS.out.symm), hbel.drew.trans (grown_below (w := wr.drew) hown.drew hg2 hbel.size)⟩
          case measure => simp [intOf]; omega
    · have e : s.data.toList.take k = s.data.toList := List.take_of_length_le (by simp; omega)
      rw [e] at HL
      go_wp2_with (at_builtin; refine wpList_append_new Tryz.underlying52 hi hz0 hz1 hz2 rfl (by decide) (by decide) rfl rfl rfl hown rfl rfl rfl (by omega) hbel.size ?_; intro v2 w2 hown2 hg2; have hown3 := byteCells_snoc _ [34] _ rfl rfl hown2; have hcv := run_own_to_string Tryz.underlying52 Tryz.underlying5 Tryz.underlying9 _ hown3)
      go_ret
      refine ⟨?_, hbel.trans (grown_below hown hg2 hbel.size)⟩
      rw [HL.out]; rfl
end

/-! ### Text -/
section
open Go.RowKit

/-- The table of powers of ten lies in the world, and in every world that grows out of it. -/
def Tab (w : World) : Prop := Lib.TabBelow Tryz.prog w.heap.size w "internal/strconv.uint64pow10" .u64 Lib.pow10Tab

theorem Tab.below {w w1 : World} (h : Tab w) (hb : Below w.heap.size w w1) : Tab w1 :=
  fun w' h' => h w' (hb.trans (h'.mono hb.size))

theorem formatInt (n : Int) (hn : I64 n) (w : World) (ht : Tab w) :
    Calls Tryz.prog 36 #[.int .i64 n, .int .i64 10] w fun e w' => e = .returned (.string ⟨(Lib.itoa n).toArray⟩) ∧ Below w.heap.size w w' :=
  (Tryz.strconv_FormatInt_10 n hn.1 hn.2 w ht.here).mono fun _ _ ⟨he, k, os, hw⟩ => ⟨he, by rw [hw]; exact Lib.below_grow _ _ (Nat.le_refl _) _ _⟩

set_option maxHeartbeats 400000 in
theorem value_text (v : V) (w : World) (hn : I64 v.n) (hs : v.s.size ≤ 100000) (ht : Tab w) {x : List UInt8} (hx : textL v = x) :
    Calls Tryz.prog 27 #[.agg #[.int .i64 v.k, .int .i64 v.n, .string v.s]] w fun e w' => e = .returned (.string ⟨x.toArray⟩) ∧ Below w.heap.size w w' := by
  obtain ⟨k, n, s⟩ := v
  have hb := below_one w (.cells #[.int .i64 k, .int .i64 n, .string s] 67)
  have hvc := fun W => value_valid ⟨k, n, s⟩ W rfl
  cases hv : V.valid ⟨k, n, s⟩
  · have H : Hid ([] = x) := hid ((textL_no hv).symm.trans hx)
    rw [hv] at hvc
    clear hx hv
    go_enter Tryz.func27, Tryz.ntmps27
    go_wp2_with (go_at_call 39; refine (hvc _).mono ?_; rintro e w1 ⟨rfl, hb1⟩)
    go_ret
    exact ⟨ret_s H.out, hb.trans (hb1.mono hb.size)⟩
  · rw [hv] at hvc
    by_cases h1 : k = 1
    · have H : Hid (Lib.itoa n = x) := hid ((textL_int hv h1).symm.trans hx)
      clear hx hv
      subst h1
      have hfi := fun W => formatInt n hn W
      go_enter Tryz.func27, Tryz.ntmps27
      go_wp2_with (first
        | (go_at_call 39; refine (hvc _).mono ?_; rintro e w1 ⟨rfl, hb1⟩; have hc0 := (hb1.cell (p := ⟨w.heap.size, 0, none⟩) (by simp)); have hc1 := (hb1.cell (p := ⟨w.heap.size, 1, none⟩) (by simp)); have hc2 := (hb1.cell (p := ⟨w.heap.size, 2, none⟩) (by simp)); have ht1 := hid (ht.below (hb.trans (hb1.mono hb.size))))
        | (go_at_call 36; refine (hfi _ ht1.out).mono ?_; rintro e w2 ⟨rfl, hb2⟩))
      go_ret
      exact ⟨ret_s H.out, (hb.trans (hb1.mono hb.size)).trans (hb2.mono (hb.trans (hb1.mono hb.size)).size)⟩
    · have b1 : (k == 1) = false := by simpa using h1
      have H : Hid (quoteL s.data.toList = x) := hid ((textL_str hv h1).symm.trans hx)
      clear hx hv h1
      have hq := fun W => value_quote s W hs
      go_enter Tryz.func27, Tryz.ntmps27
      go_wp2_with (first
        | (go_at_call 39; refine (hvc _).mono ?_; rintro e w1 ⟨rfl, hb1⟩; have hc0 := (hb1.cell (p := ⟨w.heap.size, 0, none⟩) (by simp)); have hc1 := (hb1.cell (p := ⟨w.heap.size, 1, none⟩) (by simp)); have hc2 := (hb1.cell (p := ⟨w.heap.size, 2, none⟩) (by simp)))
        | (go_at_call 40; refine (hq _).mono ?_; rintro e w2 ⟨rfl, hb2⟩))
      go_ret
      exact ⟨ret_s H.out, (hb.trans (hb1.mono hb.size)).trans (hb2.mono (hb.trans (hb1.mono hb.size)).size)⟩

theorem own_below {w w' : World} {B : Nat} {e : TypeId} {size n : Nat} {v : Value} {xs : List Value} (h : w.ownsRow B e size v n xs) (hb : Below w.heap.size w w') : w'.ownsRow B e size v n xs := by
  obtain ⟨hl, h0 | ⟨g, cap, cur, hv, hB, hh, r⟩⟩ := h
  · exact ⟨hl, .inl h0⟩
  · have hg : g < w.heap.size := (Array.getElem?_eq_some_iff.1 hh).1
    exact ⟨hl, .inr ⟨g, cap, cur, hv, hB, (hb.block g hg).trans hh, r⟩⟩

end

/-! ### Laid -/
section
open Go.ChangeShapes Go.WideShapes Go.ChangeAt Go.RowKit Go.Deep

theorem own : ownKnob Tryz.prog.godebug = none := by kernel_rfl
theorem laidOut : laidOutB Tryz.prog = true := by kernel_rfl
theorem gTab : Tryz.prog.globalNamed "internal/strconv.uint64pow10" = some 2 := by kernel_rfl
theorem gTabType : (Tryz.prog.globals[2]?).map (·.type) = some 152 := by kernel_rfl
theorem cellsU64 : Tryz.prog.cellsOf 121 = 1 := by kernel_rfl
theorem cellsTab : Tryz.prog.cellsOf 152 = 20 := by kernel_rfl
theorem tabData_eq : (Rows.laid_internal_strconv_uint64pow10 : DataW Unit) = Lib.tabData .u64 Lib.pow10Tab := by kernel_rfl

theorem laidVars_reads {P : Program} {w : World} : ∀ {l : List (String × DataW Unit)} {ps : List MemPlace}, DataW.LaidVars P w l ps → ∀ n d, (n, d) ∈ l →
    ∃ g t cs fuel p, P.globalNamed n = some g ∧ (P.globals[g]?).map (·.type) = some t ∧ w.var? P n = some cs ∧ DataW.trod (fun _ => ()) P w 0 (fun _ => true) false fuel t cs.toList = some (d, p)
  | [], _, _, _, _, hm => by cases hm
  | (n', d') :: r, ps, h, n, d, hm => by
    obtain ⟨g, t, cs, fuel, p, q, h1, h2, h3, h4, h5, _⟩ := h
    rcases List.mem_cons.1 hm with e | e
    · cases e
      exact ⟨g, t, cs, fuel, p, h1, h2, h3, h4⟩
    · exact laidVars_reads h5 n d e

/-- What a row's list gives: the table of powers of ten. -/
theorem tab_of_laid {l : List (String × DataW Unit)} {W : World} (hm : ("internal/strconv.uint64pow10", Rows.laid_internal_strconv_uint64pow10) ∈ l) (hp : (l.all fun x => x.2.handleName?.isNone) = true) (h : laidMetH Tryz.prog l W) : Tab W := by
  rw [MakeChecks.laidMetH_plain _ _ _ hp] at h
  obtain ⟨ps, hv, _⟩ := h
  obtain ⟨g, t, cs, fuel, p, h1, h2, h3, h4⟩ := laidVars_reads hv _ _ hm
  obtain rfl := Option.some.inj (gTab.symm.trans h1)
  obtain rfl := Option.some.inj (gTabType.symm.trans h2)
  rw [tabData_eq] at h4
  have hcs := Lib.cells_of_tab Tryz.underlying152 Tryz.underlying121 cellsU64 cellsTab h4
  have hlt : 2 < W.heap.size := by
    unfold World.var? at h3
    rw [gTab] at h3
    simp only [Option.bind_some] at h3
    cases hq : W.heap[2]? with
    | none => rw [hq] at h3; cases h3
    | some o => exact (Array.getElem?_eq_some_iff.1 hq).1
  intro w' hb
  have h3' := var?_below hb gTab hlt h3
  unfold Lib.TabIs
  rw [h3', ← hcs]

theorem okWide_array {P : Program} {w : World} {r : Reach} {base : Nat} {t : TypeId} {v : Value} {n : Nat} {e : TypeId} (ht : P.underlying t = some (.array n e)) (h : Value.okWide P w r base t v) : ∃ cs, v = .agg cs ∧ cs.size = P.cellsOf t := by
  simp only [Value.okWide, ht] at h
  obtain ⟨cs, h1, h2, _⟩ := h
  exact ⟨cs, h1, h2⟩

theorem slice_of {n : Nat} {H : Type} {enc : TypeId × Value → H} {w : World} {base : Nat} {sp : Nat → Bool} {held : Bool} {t e : TypeId} {v : Value} {x : DataW H × List MemPlace} (ht : Tryz.prog.underlying t = some (.slice e))
    (h : DataW.trod enc Tryz.prog w base sp held n t [v] = some x) : ∃ a len cap, v = .slice a len cap := by
  rcases open_slice ht h with ⟨h0, _⟩ | ⟨a', len', cap', m, n, D, Pl, hcs, _⟩
  · injection h0 with h0 _; exact ⟨_, _, _, h0⟩
  · injection hcs with h0 _; exact ⟨_, _, _, h0⟩

/-- A start for the witness: the settled world, the three tables as their initialisers lay them. -/
def cellsIn : DataW Unit → Array Value
  | .agg l => (l.map fun | .lit (.int k n) => Value.int k n | _ => undef).toArray
  | _ => #[]
def layIn (d : DataW Unit) : Obj → Obj
  | .cells _ t frozen => .cells (cellsIn d) t frozen
  | o => o
noncomputable def laidWorld (os : Os) : World :=
  { World.holding Tryz.prog os ⟨#[], #[], []⟩ with heap := (((World.holding Tryz.prog os ⟨#[], #[], []⟩).heap.modify 2 (layIn Rows.laid_internal_strconv_uint64pow10)).modify 6 (layIn Rows.laid_math_bits_deBruijn32tab)).modify 7 (layIn Rows.laid_math_bits_deBruijn64tab) }

end

/-! ### Kit3 -/
section
open Go.RowKit

/-- A world that w has grown into. -/
structure BelowBy (w : World) where
  to : World
  le : Below w.heap.size w to
instance (w : World) : Inhabited (BelowBy w) := ⟨w, Below.refl _ _⟩

theorem wp_region_below {P : Program} {id : Nat} {Q : Exit → Act → World → Prop} {a : Act} {w : World} {l : List Oper} (hm : P.follows .mixedOrders = true) (hB : Region.lexB .any l.toArray = true)
    (h : wpQuiet P l.toArray (fun w' => ∃ p : BelowBy w, w' = p.to) (fun a' => ∀ w', (∃ p : BelowBy w, w' = p.to) → Q .normal a' w') l a) : (Code.region id l.toArray true).wp P Q a w :=
  wp_region_quiet (C := fun w' => ∃ p : BelowBy w, w' = p.to) hm hB ⟨⟨w.drew, (Below.refl _ _).drew⟩, rfl⟩ (by simpa using h)

theorem calls_by {P : Program} {f : FuncId} {args : Array Value} {w : World} {p : BelowBy w} {v : Value}
    (h : Calls P f args p.to fun e w' => e = .returned v ∧ Below p.to.heap.size p.to w') : Calls P f args p.to fun e w'' => e = .returned v ∧ ∃ q : BelowBy w, w'' = q.to :=
  h.mono fun _ w' ⟨he, hb⟩ => ⟨he, ⟨w', p.le.trans (hb.mono p.le.size)⟩, rfl⟩

theorem by_cell {w : World} {b o : Nat} {v : Value} (h : w.cell? ⟨b, o, none⟩ = some v) (p : BelowBy w) : p.to.cell? ⟨b, o, none⟩ = some v := by
  rw [p.le.cell (p := ⟨b, o, none⟩) (by
    unfold World.cell? at h
    cases hq : w.heap[b]? with
    | none => simp [hq] at h
    | some x => exact (Array.getElem?_eq_some_iff.1 hq).1)]; exact h
theorem cell_keep {w w' : World} {b o : Nat} {v : Value} (hb : Below w.heap.size w w') (h : w.cell? ⟨b, o, none⟩ = some v) : w'.cell? ⟨b, o, none⟩ = some v :=
  by_cell h ⟨w', hb⟩
end
end Go.Proofs.YtjhnopnppimnhaaGreatDoor
