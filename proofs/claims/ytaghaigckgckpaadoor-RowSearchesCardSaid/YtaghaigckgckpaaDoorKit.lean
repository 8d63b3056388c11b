/-
  SMALL TOOLS for all walks: hiding a fact from the walk, worlds that grow. Nothing of the program.
-/
import Derived.WalkKit
import Derived.WalkSpells
import Derived.WalkLawsBesides
import Derived.Lib.UnsafeStr
import Derived.Laws.IdiomStrings
namespace Go.Proofs.YtaghaigckgckpaaDoor
open Go.RowKit

theorem hid {p : Prop} (h : p) : Hid p := h
theorem ret_i {k : IntKind} {a b : Int} (h : a = b) : Ending.returned (.int k a) = .returned (.int k b) := by rw [h]
theorem ret_b {a b : Bool} (h : a = b) : Ending.returned (.bool a) = .returned (.bool b) := by rw [h]

theorem ret_s {a b : List UInt8} (h : a = b) : Ending.returned (.string ⟨a.toArray⟩) = .returned (.string ⟨b.toArray⟩) := by rw [h]
theorem below_one (w : World) (o1 : Obj) : Below w.heap.size w (w.alloc o1) := (Below.refl _ _).alloc (Nat.le_refl _) _
theorem below_two (w : World) (o1 o2 : Obj) : Below w.heap.size w ((w.alloc o1).alloc o2) := (below_one w o1).alloc (by simp) _
theorem below_three (w : World) (o1 o2 o3 : Obj) : Below w.heap.size w (((w.alloc o1).alloc o2).alloc o3) := (below_two w o1 o2).alloc (by simp; omega) _
theorem below_drewN {B : Nat} {a w : World} (h : Below B a w) (n : Nat) : Below B a (w.drewN n) := ⟨h.os, h.tape, h.output, h.size, h.block⟩

/-- 'append(out, x, ..)': what is appended has just been laid in a block of its own; out is nil or the call's own. -/
theorem wpList_append_new {P : Program} {w0 : World} {news : List Value} {ops : Array Oper} {rest : List Oper} {o : Oper} {a : Act} {Q : Exit → Act → World → Prop} {t e : TypeId} {i : TypeInfo} {z : Value} {size bytes : Nat}
    (ht : P.underlying t = some (.slice e)) (hi : P.info? e = some i) (hz : i.zero = some z) (hsize : i.size = size) (hby : i.bytes = bytes) (hzs : z.cells.size = size) (hsz : 0 < size) (hb1 : 0 < bytes)
    (hgd : o.guard = none) {s x : Operand} (ho : o.op = .call { callee := .builtin .append, args := #[s, x], argTypes := #[t, t] })
    {base : Nat} {v : Value} {n : Nat} {xs : List Value} (hs : a.eval s = v) (hown : w0.ownsRow base e size v n xs) {m c : Nat} (hx : a.eval x = .slice (some ⟨w0.heap.size, 0, none⟩) m c)
    (hl : news.length = m * size) (h1 : news.all (·.oneCell') = true) (hlim : (n + m) * bytes ≤ 140737488355328) (hbase : base ≤ w0.heap.size)
    (h : ∀ v' w', w'.ownsRow base e size v' (n + m) (xs ++ news) → w0.grownBy w' v.ownBlock → wpList P ops Q rest (a.put o.dst v') w') : wpList P ops Q (o :: rest) a (w0.alloc (.cells news.toArray e)) := by
  have h63 : n + m ≤ maxLen := by
    have := Nat.le_mul_of_pos_right (n + m) hb1
    simp only [maxLen]; omega
  refine wpList_append_own _ hgd s x t ho base e i z size bytes ht hi hz hsize hby hzs hsz v n xs hs (hown.alloc _) ⟨w0.heap.size, 0, none⟩ m c news hx hl ?_ (by simpa [List.all_eq_true] using h1) h63 hlim (by simp; omega) ?_
  · intro j u hu
    have hc : (w0.alloc (.cells news.toArray e)).heap[w0.heap.size]? = some (.cells news.toArray e (0, 0)) := heap_alloc_new w0 _
    have : Addr.add ⟨w0.heap.size, 0, none⟩ j = ⟨w0.heap.size, j, none⟩ := by unfold Addr.add; by_cases hj : j = 0 <;> simp [hj]
    rw [this, cell_of_row _ w0.heap.size j _ e (0, 0) hc]
    simpa using hu
  · intro v' w' h2 h3 _
    exact h v' w' h2 ⟨h3.os, h3.tape, h3.output, Nat.le_trans (by simp) h3.size, fun k hk hne => (h3.block k (by simp; omega) hne).trans (Below.heap_alloc _ _ _ hk)⟩

/-- The same as one step of a region that draws its order. -/
theorem step_append_new {P : Program} {w0 : World} {news : List Value} {ops : Array Oper} {o : Oper} {a : Act} {K : Act → World → Prop} {Q : Exit → Act → World → Prop} {E : Prop} {t e : TypeId} {i : TypeInfo} {z : Value} {size bytes : Nat}
    (ht : P.underlying t = some (.slice e)) (hi : P.info? e = some i) (hz : i.zero = some z) (hsize : i.size = size) (hby : i.bytes = bytes) (hzs : z.cells.size = size) (hsz : 0 < size) (hb1 : 0 < bytes)
    (hgd : o.guard = none) {s x : Operand} (ho : o.op = .call { callee := .builtin .append, args := #[s, x], argTypes := #[t, t] })
    {base : Nat} {v : Value} {n : Nat} {xs : List Value} (hs : a.eval s = v) (hown : w0.ownsRow base e size v n xs) {m c : Nat} (hx : a.eval x = .slice (some ⟨w0.heap.size, 0, none⟩) m c)
    (hl : news.length = m * size) (h1 : news.all (·.oneCell') = true) (hlim : (n + m) * bytes ≤ 140737488355328) (hbase : base ≤ w0.heap.size)
    (h : ∀ v' w', w'.ownsRow base e size v' (n + m) (xs ++ news) → w0.grownBy w' v.ownBlock → K (a.put o.dst v') w') :
    if Region.wanted o (yielded ops a.tmps) = true then Oper.wp P o a (w0.alloc (.cells news.toArray e)) K Q else E := by
  have hw : Region.wanted o (yielded ops a.tmps) = true := by simp [Region.wanted, hgd]
  rw [if_pos hw]
  have h63 : n + m ≤ maxLen := by
    have := Nat.le_mul_of_pos_right (n + m) hb1
    simp only [maxLen]; omega
  refine wp_append_own _ s x t ho base e i z size bytes ht hi hz hsize hby hzs hsz v n xs hs (hown.alloc _) ⟨w0.heap.size, 0, none⟩ m c news hx hl ?_ (by simpa [List.all_eq_true] using h1) h63 hlim (by simp; omega) ?_
  · intro j u hu
    have hc : (w0.alloc (.cells news.toArray e)).heap[w0.heap.size]? = some (.cells news.toArray e (0, 0)) := heap_alloc_new w0 _
    have : Addr.add ⟨w0.heap.size, 0, none⟩ j = ⟨w0.heap.size, j, none⟩ := by unfold Addr.add; by_cases hj : j = 0 <;> simp [hj]
    rw [this, cell_of_row _ w0.heap.size j _ e (0, 0) hc]
    simpa using hu
  · intro v' w' h2 h3 _
    exact h v' w' h2 ⟨h3.os, h3.tape, h3.output, Nat.le_trans (by simp) h3.size, fun k hk hne => (h3.block k (by simp; omega) hne).trans (Below.heap_alloc _ _ _ hk)⟩

theorem step_append_new_drew {P : Program} {w0 : World} {news : List Value} {ops : Array Oper} {o : Oper} {a : Act} {K : Act → World → Prop} {Q : Exit → Act → World → Prop} {E : Prop} {t e : TypeId} {i : TypeInfo} {z : Value} {size bytes : Nat}
    (ht : P.underlying t = some (.slice e)) (hi : P.info? e = some i) (hz : i.zero = some z) (hsize : i.size = size) (hby : i.bytes = bytes) (hzs : z.cells.size = size) (hsz : 0 < size) (hb1 : 0 < bytes)
    (hgd : o.guard = none) {s x : Operand} (ho : o.op = .call { callee := .builtin .append, args := #[s, x], argTypes := #[t, t] })
    {base : Nat} {v : Value} {n : Nat} {xs : List Value} (hs : a.eval s = v) (hown : w0.ownsRow base e size v n xs) {m c : Nat} (hx : a.eval x = .slice (some ⟨w0.heap.size, 0, none⟩) m c)
    (hl : news.length = m * size) (h1 : news.all (·.oneCell') = true) (hlim : (n + m) * bytes ≤ 140737488355328) (hbase : base ≤ w0.heap.size)
    (h : ∀ v' w', w'.ownsRow base e size v' (n + m) (xs ++ news) → w0.drew.grownBy w' v.ownBlock → K (a.put o.dst v') w') :
    if Region.wanted o (yielded ops a.tmps) = true then Oper.wp P o a (w0.alloc (.cells news.toArray e)).drew K Q else E :=
  step_append_new (w0 := w0.drew) ht hi hz hsize hby hzs hsz hb1 hgd ho hs hown.drew hx hl h1 hlim hbase h

/-- What such an append leaves: below 'base' nothing has turned. -/
theorem grown_below {w w' : World} {base : Nat} {e : TypeId} {size n : Nat} {v : Value} {xs : List Value} (hown : w.ownsRow base e size v n xs) (hg : w.grownBy w' v.ownBlock) (hb : base ≤ w.heap.size) : Below base w w' :=
  (Below.refl _ _).grown hg hb (fun k hk => (hown.lt k hk).1)

/-- 'string(b)' of a slice of bytes of the call's own. -/
theorem run_own_to_string {P : Program} {w : World} {src dst e : TypeId} (hs : P.underlying src = some (.slice e)) (he : P.underlying e = some (.int .u8)) (hd : P.underlying dst = some .string)
    {base : Nat} {v : Value} (l : List UInt8) (hown : w.ownsRow base e 1 v l.length (Lib.byteCells l)) : (convert src dst v).run P w = .ok (.string ⟨l.toArray⟩) w := by
  rcases hown.2 with ⟨rfl, h0⟩ | ⟨g, cap, cur, rfl, hg, hh, hn, hm, hcs, ht⟩
  · have : l = [] := List.eq_nil_of_length_eq_zero h0
    subst this
    simp [convert, run_underlying hs, run_underlying hd, run_underlying he, Conv.bytesToString]
    rfl
  · refine run_convert_bytes_back w src dst e ⟨g, 0, none⟩ cap l hs he hd fun j hj => ?_
    exact hown.cells (g := g) rfl j (.int .u8 l[j].toNat) (by simp [Lib.byteCells, hj])

theorem u8_and15 (x : Nat) (h : x < 256) : bits .and .u8 (x : Int) 15 = (x : Int) % 16 := by
  have : ∀ x : Fin 256, bits .and .u8 (x.val : Int) 15 = (x.val : Int) % 16 := by decide +kernel
  exact this ⟨x, h⟩

theorem hex_index (q : Nat) (h : q < 16) (h' : ((q : Int)).toNat < (ByteArray.mk #[48, 49, 50, 51, 52, 53, 54, 55, 56, 57, 97, 98, 99, 100, 101, 102]).size) (f : Nat → UInt8) (hf : ∀ q < 16, f q = (ByteArray.mk #[48, 49, 50, 51, 52, 53, 54, 55, 56, 57, 97, 98, 99, 100, 101, 102]).data[q]!) :
    (ByteArray.mk #[48, 49, 50, 51, 52, 53, 54, 55, 56, 57, 97, 98, 99, 100, 101, 102])[((q : Int)).toNat] = f q := by
  rw [hf q h]
  have hb : ∀ q : Fin 16, (ByteArray.mk #[48, 49, 50, 51, 52, 53, 54, 55, 56, 57, 97, 98, 99, 100, 101, 102])[q.val]'(by have := q.isLt; exact this) = (ByteArray.mk #[48, 49, 50, 51, 52, 53, 54, 55, 56, 57, 97, 98, 99, 100, 101, 102]).data[q.val]! := by decide
  exact hb ⟨q, h⟩

/-- A contract's result behind one letter. -/
theorem calls_below {P : Program} {f : FuncId} {args : Array Value} {w w1 : World} {e0 : Ending} (hb : Below w.heap.size w w1)
    (h : Calls P f args w1 fun e w' => e = e0 ∧ Below w1.heap.size w1 w') : Calls P f args w1 fun e w' => e = e0 ∧ Below w.heap.size w w' :=
  h.mono fun _ _ ⟨he, hb'⟩ => ⟨he, hb.trans (hb'.mono hb.size)⟩

theorem cell_lt {w : World} {p : Addr} {v : Value} (h : w.cell? p = some v) : p.block < w.heap.size := by
  unfold World.cell? at h
  cases hq : w.heap[p.block]? with
  | none => rw [hq] at h; cases h
  | some o => exact (Array.getElem?_eq_some_iff.1 hq).1

end Go.Proofs.YtaghaigckgckpaaDoor
