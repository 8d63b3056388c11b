/-
  PARTS of a claim, merged by segs.py: Rt4, Ps3, Ps4, PsM, PsR, PgW, Rw1, Cmp, Row, Build.
-/
import Derived.Test.YtjhnopnppimnhaaGreatDoorZ18
import Derived.Test.YtjhnopnppimnhaaGreatDoorZ17
import Derived.Test.YtjhnopnppimnhaaGreatDoorZ13
import Derived.Test.YtjhnopnppimnhaaGreatDoorZ05
import Derived.Test.YtjhnopnppimnhaaGreatDoorZ04
import Derived.Test.YtjhnopnppimnhaaGreatDoorZ01
import Derived.Test.YtjhnopnppimnhaaGreatDoorShelf
import Derived.Test.YtjhnopnppimnhaaGreatDoorZ07
import Derived.Deep.RegionLaw
import Derived.StillTailTactics
import Derived.Deep.QuietTactic
import Derived.BigQuiet
import Derived.Shelf.Strings.Builder1
namespace Go.Proofs.YtjhnopnppimnhaaGreatDoor

/-! ### Rt4 -/
section
open Go.RowKit

def bytesOf : Value → ByteArray
  | .string s => s
  | _ => ⟨#[]⟩
theorem own_shape {w : World} {B : Nat} {e : TypeId} {v : Value} {n size : Nat} {xs : List Value} (h : w.ownsRow B e size v n xs) : ∃ A c, v = .slice A n c := by
  rcases h.2 with ⟨rfl, h0⟩ | ⟨g, cap, cur, rfl, hB, hh, hn, hm, hcs, ht⟩
  · exact ⟨none, 0, by rw [h0]⟩
  · exact ⟨_, _, rfl⟩

def decRes : Option (List UInt8) → V × Int
  | none => (V0, 15)
  | some o => makeStr o
theorem rParse_def (l : List UInt8) : rParse l = if l = [] then (V0, 10) else if l.getD 0 0 = 45 ∨ isDig (l.getD 0 0) then pInt l
  else if l.length < 2 ∨ l.getD 0 0 ≠ 34 ∨ l.getD (l.length - 1) 0 ≠ 34 then (V0, 15) else decRes (dec [] ((l.drop 1).take (l.length - 2))) := by
  unfold rParse decRes
  cases dec [] ((l.drop 1).take (l.length - 2)) <;> rfl
theorem dec_bad {acc : List UInt8} {r : ByteArray} {b : UInt8} {n : Nat} (h : 0 < r.size) (hu : unq r.data.toList = (b, n)) (hn : n = 0) : dec acc r.data.toList = none := by
  rw [dec_step (list_ne h), hu, if_pos hn]
theorem dec_more {acc : List UInt8} {r : ByteArray} {b : UInt8} {n : Nat} (h : 0 < r.size) (hu : unq r.data.toList = (b, n)) (hn : n ≠ 0) : dec acc r.data.toList = dec (acc ++ [b]) (r.extract n r.size).data.toList ∧ n ≤ r.size := by
  constructor
  · rw [dec_step (list_ne h), hu, if_neg hn, drop_extract]
  · have := unq_le hu hn
    simpa using this

end

/-! ### Ps3 -/
section
open Go.RowKit

def vV (v : V) : Value := .agg #[.int .i64 v.k, .int .i64 v.n, .string v.s]
/-- What constant returns. -/
def RetCo (w : World) (o : Option V) (e : Ending) (w' : World) : Prop := e = .returned (.tuple #[vV (o.getD V0), .bool o.isSome]) ∧ Below w.heap.size w w'

end

/-! ### Ps4 -/
section
open Go.RowKit

theorem infoTrP : (Tryz.prog.info? 201).map (fun i => (i.zero, i.size, i.bytes)) = some (some (.agg #[.string ⟨#[]⟩, .int .i64 0, .int .i64 0, .string ⟨#[]⟩]), 4, 48) := by kernel_rfl
/-- What terms returns. -/
def RetTs (w : World) (o : Out (List Trm)) (e : Ending) (w' : World) : Prop := match o with
  | .bad b => (∃ nx : Int, e = .returned (.tuple #[.slice none 0 0, .int .i64 nx, .int .i64 b])) ∧ Below w.heap.size w w'
  | .ok l nx => ∃ u, e = .returned (.tuple #[u, .int .i64 nx, .int .i64 (-1)]) ∧ w'.ownsRow w.heap.size 201 4 u l.length (l.flatMap cellsT) ∧ Below w.heap.size w w'
abbrev valO (v : V) : Obj := .cells #[.int .i64 v.k, .int .i64 v.n, .string v.s] 67

end

/-! ### PsM -/
section
open Go.RowKit

/-- Of the blocks that lay in w those of S alone may have turned. -/
structure Chg (S : List Nat) (w w' : World) : Prop where
  os : w'.os = w.os
  tape : w'.tape = w.tape
  output : w'.output = w.output
  size : w.heap.size ≤ w'.heap.size
  block : ∀ k, k < w.heap.size → k ∉ S → w'.heap[k]? = w.heap[k]?
section
variable {S T : List Nat} {w w1 w2 w3 : World}
theorem Chg.refl (S : List Nat) (w : World) : Chg S w w := ⟨rfl, rfl, rfl, Nat.le_refl _, fun _ _ _ => rfl⟩
theorem Chg.trans (h : Chg S w w1) (k : Chg S w1 w2) : Chg S w w2 :=
  ⟨k.os.trans h.os, k.tape.trans h.tape, k.output.trans h.output, Nat.le_trans h.size k.size, fun j hj hs => (k.block j (Nat.lt_of_lt_of_le hj h.size) hs).trans (h.block j hj hs)⟩
/-- What follows turns blocks of S and blocks that did not lie in w. -/
theorem Chg.then (h : Chg S w w1) (k : Chg T w1 w2) (hT : ∀ t ∈ T, t ∈ S ∨ w.heap.size ≤ t) : Chg S w w2 :=
  ⟨k.os.trans h.os, k.tape.trans h.tape, k.output.trans h.output, Nat.le_trans h.size k.size, fun j hj hs => (k.block j (Nat.lt_of_lt_of_le hj h.size) (fun ht => by
    rcases hT j ht with h1 | h1
    · exact hs h1
    · omega)).trans (h.block j hj hs)⟩
theorem Chg.mono (h : Chg S w w1) (hS : ∀ s ∈ S, s ∈ T) : Chg T w w1 := ⟨h.os, h.tape, h.output, h.size, fun j hj hs => h.block j hj (fun h1 => hs (hS j h1))⟩
theorem chg_below (h : Below w.heap.size w w1) : Chg S w w1 := ⟨h.os, h.tape, h.output, h.size, fun k hk _ => h.block k hk⟩
theorem Chg.below {B : Nat} (h : Chg S w w1) (hS : ∀ s ∈ S, B ≤ s) (hB : B ≤ w.heap.size) : Below B w w1 :=
  ⟨h.os, h.tape, h.output, h.size, fun k hk => h.block k (by omega) (fun h1 => by have := hS k h1; omega)⟩
theorem Chg.set (h : Chg S w w1) {b : Nat} (hb : b ∈ S ∨ w.heap.size ≤ b) (i : Nat) (v : Value) : Chg S w (w1.setCell ⟨b, i, none⟩ v) :=
  ⟨h.os, h.tape, h.output, by simpa [World.setCell] using h.size, fun j hj hs => (Below.heap_setCell w1 ⟨b, i, none⟩ v j (fun e => by
    rcases hb with hb | hb
    · exact hs (e ▸ hb)
    · have : j = b := e
      omega)).trans (h.block j hj hs)⟩
theorem Chg.cell (h : Chg S w w1) {b o : Nat} {v : Value} (hc : w.cell? ⟨b, o, none⟩ = some v) (hb : b ∉ S) : w1.cell? ⟨b, o, none⟩ = some v :=
  (World.cell?_of_block (a := ⟨b, o, none⟩) (h.block b (cell_lt hc) hb)).trans hc
theorem Chg.grown (h : Chg S w w1) {x : Option Nat} (k : w1.grownBy w2 x) (hx : ∀ b, x = some b → b ∈ S ∨ w.heap.size ≤ b) : Chg S w w2 :=
  ⟨k.os.trans h.os, k.tape.trans h.tape, k.output.trans h.output, Nat.le_trans h.size k.size, fun j hj hs => (k.block j (Nat.lt_of_lt_of_le hj h.size) (fun e => by
    rcases hx j e.symm with h1 | h1
    · exact hs h1
    · omega)).trans (h.block j hj hs)⟩
theorem Chg.toks (h : Chg S w w1) {A : Option Addr} {l : List Tok} (hT : TokAt w A l) (hA : ∀ ad, A = some ad → ad.block ∉ S) : TokAt w1 A l := fun hp => by
  obtain ⟨b, o, e, hc⟩ := hT hp
  have hb := hA _ e
  refine ⟨b, o, e, fun i hi => ?_⟩
  obtain ⟨h0, h1, h2, h3, h4, h5⟩ := hc i hi
  exact ⟨h.cell h0 hb, h.cell h1 hb, h.cell h2 hb, h.cell h3 hb, h.cell h4 hb, h.cell h5 hb⟩
theorem Chg.own (h : Chg S w w1) {B e k n : Nat} {v : Value} {xs : List Value} (ho : w.ownsRow B e k v n xs) (hv : ∀ b, v.ownBlock = some b → b ∉ S) : w1.ownsRow B e k v n xs := by
  obtain ⟨hl, h0 | ⟨g, cap, cur, rfl, hB, hh, r⟩⟩ := ho
  · exact ⟨hl, .inl h0⟩
  · exact ⟨hl, .inr ⟨g, cap, cur, rfl, hB, (h.block g (lt_of_block hh) (hv g rfl)).trans hh, r⟩⟩
end
end

/-! ### PsR -/
section
open Go.RowKit

theorem infoAtP : (Tryz.prog.info? 188).map (fun i => (i.zero, i.size, i.bytes)) = some (some (.agg #[.bool false, .string ⟨#[]⟩, .slice none 0 0]), 3, 48) := by kernel_rfl
theorem infoCnP : (Tryz.prog.info? 192).map (fun i => (i.zero, i.size, i.bytes)) = some (some (.agg #[.string ⟨#[]⟩, .int .i64 0, .int .i64 0, .int .i64 0, .string ⟨#[]⟩]), 5, 56) := by kernel_rfl
theorem infoRlP : (Tryz.prog.info? 142).map (·.size) = some 2 := by kernel_rfl
/-- Tokens that lie below B. -/
def TokB (A : Option Addr) (B : Nat) : Prop := ∀ ad, A = some ad → ad.block < B
theorem RefTk.on {w w' : World} {A : Option Addr} {L : List Tok} {B : Nat} (h : RefTk w A L) (hA : TokB A B) (hb : Below B w w') : RefTk w' A L :=
  ⟨fun hp => (by
    obtain ⟨b, o, e, hc⟩ := h.at_ hp
    have hlt : b < B := hA _ e
    refine ⟨b, o, e, fun i hi => ?_⟩
    obtain ⟨h0, h1, h2, h3, h4, h5⟩ := hc i hi
    exact ⟨(hb.cell (p := ⟨b, _, none⟩) hlt).trans h0, (hb.cell (p := ⟨b, _, none⟩) hlt).trans h1, (hb.cell (p := ⟨b, _, none⟩) hlt).trans h2, (hb.cell (p := ⟨b, _, none⟩) hlt).trans h3, (hb.cell (p := ⟨b, _, none⟩) hlt).trans h4, (hb.cell (p := ⟨b, _, none⟩) hlt).trans h5⟩), h.ended, h.few, h.txt, h.lit⟩
/-- A rule of the call's own: the slices of its atoms and conditions. -/
def OwnRl (w : World) (B : Nat) (ua uc : Value) (r : Rul) : Prop := OwnAts w B ua r.atoms ∧ w.ownsRow B 192 5 uc r.conds.length (r.conds.flatMap cellsC)
theorem OwnRl.below {w w' : World} {B : Nat} {ua uc : Value} {r : Rul} (h : OwnRl w B ua uc r) (hb : Below w.heap.size w w') : OwnRl w' B ua uc r := ⟨h.1.below hb, own_belowS h.2 hb⟩
theorem OwnRl.shape {w : World} {B : Nat} {ua uc : Value} {r : Rul} (h : OwnRl w B ua uc r) : ∃ Aa ca Ac cc, ua = .slice Aa r.atoms.length ca ∧ uc = .slice Ac r.conds.length cc := by
  obtain ⟨us, h0, h1, h2⟩ := h.1
  obtain ⟨Aa, ca, e1⟩ := own_shape h1
  obtain ⟨Ac, cc, e2⟩ := own_shape h.2
  exact ⟨Aa, ca, Ac, cc, e1, e2⟩
theorem box_own {w : World} {g : Nat} {a b : Value} (h : w.heap[g]? = some (.cells #[a, b] 142)) : w.ownsRow g 142 2 (.slice (some ⟨g, 0, none⟩) 1 1) 1 [a, b] :=
  ⟨rfl, .inr ⟨g, 1, #[a, b], rfl, Nat.le_refl _, h, Nat.le_refl _, by unfold maxLen; omega, rfl, rfl⟩⟩
/-- A change of a box that holds a rule. -/
theorem OwnRl.box {w w' : World} {B g : Nat} {ua uc a b : Value} {r : Rul} (h : OwnRl w B ua uc r) (hb : w.heap[g]? = some (.cells #[a, b] 142)) (hg : w.grownBy w' (some g)) : OwnRl w' B ua uc r :=
  ⟨h.1.kept (box_own hb) (by decide) hg, h.2.kept hg (ren_apart h.2 (box_own hb) (by decide))⟩
theorem grown_below' {w w' : World} {B g : Nat} (h : w.grownBy w' (some g)) (hg : B ≤ g) (hB : B ≤ w.heap.size) : Below B w w' := ⟨h.os, h.tape, h.output, h.size, fun k hk => h.block k (by omega) (fun e => by injection e; omega)⟩
/-- What item returns, and rule. -/
def RetRu (B : Nat) (w : World) (o : Out Rul) (e : Ending) (w' : World) : Prop := (match o with
  | .bad b => ∃ (A1 : Option Addr) (n1 c1 : Nat) (A2 : Option Addr) (n2 c2 : Nat) (nx : Int), e = .returned (.tuple #[.agg #[.slice A1 n1 c1, .slice A2 n2 c2], .int .i64 nx, .int .i64 b])
  | .ok r nx => ∃ ua uc, e = .returned (.tuple #[.agg #[ua, uc], .int .i64 nx, .int .i64 (-1)]) ∧ OwnRl w' B ua uc r) ∧ Below B w w'
abbrev rulO (ua uc : Value) : Obj := .cells #[ua, uc] 142
end

/-! ### PgW -/
section
open Go.RowKit

abbrev prsO (A : Option Addr) (n c : Nat) (k : Nat) : Obj := .cells #[.slice A n c, .int .i64 k] 113
/-- The parser's box bp, the next token is token k of L. -/
structure PW (bp : Nat) (A : Option Addr) (c : Nat) (L : List Tok) (k : Nat) (w : World) : Prop where
  box : w.heap[bp]? = some (prsO A L.length c k)
  toks : TokAt w A L
  ended : Ended L
  few : L.length ≤ 70000
  apart : ∀ ad, A = some ad → ad.block < bp
  lt : k < L.length
section
variable {bp c k : Nat} {A : Option Addr} {L : List Tok} {w w' : World} {S : List Nat}
theorem PW.block_lt (h : PW bp A c L k w) : bp < w.heap.size := lt_of_block h.box
theorem PW.below (h : PW bp A c L k w) (hb : Below w.heap.size w w') : PW bp A c L k w' := ⟨(hb.block bp h.block_lt).trans h.box, h.toks.below hb, h.ended, h.few, h.apart, h.lt⟩
theorem PW.chg (h : PW bp A c L k w) (hc : Chg S w w') (hS : ∀ s ∈ S, bp < s) : PW bp A c L k w' :=
  ⟨(hc.block bp h.block_lt (fun hm => by have := hS bp hm; omega)).trans h.box, hc.toks h.toks (fun ad e hm => by have := hS _ hm; have := h.apart ad e; omega), h.ended, h.few, h.apart, h.lt⟩
theorem PW.grown (h : PW bp A c L k w) {x : Option Nat} (hg : w.grownBy w' x) (hx : ∀ b, x = some b → bp < b) : PW bp A c L k w' :=
  h.chg (S := x.toList) ((Chg.refl _ _).grown hg (fun b e => .inl (by rw [e]; simp))) (fun s hs => by
    cases x with
    | none => simp at hs
    | some b => simp at hs; subst hs; exact hx s rfl)
theorem PW.step (h : PW bp A c L k w) {j : Nat} (hj : j < L.length) : PW bp A c L j (w.setCell ⟨bp, 1, none⟩ (.int .i64 j)) :=
  ⟨heap_setCell_same w bp 1 _ _ _ h.box, (((Chg.refl [bp] w).set (.inl (by simp)) 1 (.int .i64 j)).toks h.toks (fun ad e hm => by have := h.apart ad e; simp at hm; omega)), h.ended, h.few, h.apart, hj⟩
theorem PW.cells (h : PW bp A c L k w) : w.cell? ⟨bp, 0, none⟩ = some (.slice A L.length c) ∧ w.cell? ⟨bp, 1, none⟩ = some (.int .i64 k) := by
  constructor
  · rw [cell_of_row _ bp 0 _ _ _ h.box]; rfl
  · rw [cell_of_row _ bp 1 _ _ _ h.box]; rfl
/-- The cells of the next token. -/
theorem PW.tok (h : PW bp A c L k w) : ∃ b o, A = some ⟨b, o, none⟩ ∧
    w.cell? ⟨b, o + k * 6, none⟩ = some (.int .i64 (tkL L k).k) ∧ w.cell? ⟨b, o + k * 6 + 1, none⟩ = some (.string ⟨(tkL L k).t.toArray⟩) ∧ w.cell? ⟨b, o + k * 6 + 2, none⟩ = some (.int .i64 (tkL L k).v.k) ∧ w.cell? ⟨b, o + k * 6 + 3, none⟩ = some (.int .i64 (tkL L k).v.n) ∧ w.cell? ⟨b, o + k * 6 + 4, none⟩ = some (.string (tkL L k).v.s) ∧ w.cell? ⟨b, o + k * 6 + 5, none⟩ = some (.int .i64 (tkL L k).a) := by
  obtain ⟨b, o, e, hc⟩ := h.toks h.ended.pos
  refine ⟨b, o, e, ?_⟩
  rw [tkL_at h.lt]
  exact hc k h.lt
/-- A row of the call's own that lies above the boxes that turn. -/
theorem Chg.ownS {B e z n : Nat} {v : Value} {xs : List Value} (hc : Chg S w w') (h : w.ownsRow B e z v n xs) (hS : ∀ s ∈ S, s < B) : w'.ownsRow B e z v n xs := hc.own h (fun b e hm => by have := (h.lt b e).1; have := hS b hm; omega)
theorem OwnAts.chg {B : Nat} {u : Value} {l : List Atm} (h : OwnAts w B u l) (hc : Chg S w w') (hS : ∀ s ∈ S, s < B) : OwnAts w' B u l :=
  let ⟨us, h0, h1, h2⟩ := h; ⟨us, h0, hc.ownS h1 hS, fun i hi hi' => hc.ownS (h2 i hi hi') hS⟩
theorem OwnRl.chg {B : Nat} {ua uc : Value} {r : Rul} (h : OwnRl w B ua uc r) (hc : Chg S w w') (hS : ∀ s ∈ S, s < B) : OwnRl w' B ua uc r := ⟨h.1.chg hc hS, hc.ownS h.2 hS⟩
theorem OwnRls.chg {B : Nat} {u : Value} {l : List Rul} (h : OwnRls w B u l) (hc : Chg S w w') (hS : ∀ s ∈ S, s < B) : OwnRls w' B u l :=
  let ⟨us, vs, h0, h1, h2, h3⟩ := h; ⟨us, vs, h0, h1, hc.ownS h2 hS, fun i a b d => ⟨(h3 i a b d).1.chg hc hS, hc.ownS (h3 i a b d).2 hS⟩⟩
end
/-- What a method of the parser answers: whether it fits, the next token; R of what it has made. -/
def RetO {σ : Type} (bp : Nat) (A : Option Addr) (c : Nat) (L : List Tok) (S : List Nat) (w : World) (o : Out σ) (Rb : World → Prop) (R : σ → World → Prop) (e : Ending) (w' : World) : Prop := (match o with
  | .bad b => e = .returned (.bool false) ∧ PW bp A c L b w' ∧ Rb w'
  | .ok x nx => e = .returned (.bool true) ∧ PW bp A c L nx w' ∧ R x w') ∧ Chg S w w'
/-- What it answers of one token. -/
def RetZ (bp : Nat) (A : Option Addr) (c : Nat) (L : List Tok) (k : Nat) (z : Bool) (w : World) (e : Ending) (w' : World) : Prop :=
  e = .returned (.bool z) ∧ PW bp A c L (if z = true then k + 1 else k) w' ∧ Chg [bp] w w'
end

/-! ### Rw1 -/
section
open Go.RowKit

theorem ix_lit : ∀ l : List UInt8, (Lib.indexByte l 44 = -1 ∧ (l.takeWhile (· != 44)).length = l.length) ∨ Lib.indexByte l 44 = ((l.takeWhile (· != 44)).length : Nat)
  | [] => .inl ⟨rfl, rfl⟩
  | c :: l => by
    by_cases h : c = 44
    · right; subst h; simp [Lib.indexByte]
    · have h1 : (c == 44) = false := by simpa using h
      have h2 : (c != 44) = true := by simpa using h
      rw [Lib.indexByte, h1, List.takeWhile_cons, if_pos h2]
      rcases ix_lit l with ⟨e1, e2⟩ | e
      · left; rw [e1]; simp [e2]
      · right
        have hne : (Lib.indexByte l 44 == -1) = false := by rw [beq_eq_false_iff_ne, e]; omega
        rw [if_neg (by decide), hne, if_neg (by decide), e]; simp
theorem qGo_at34 {l : List UInt8} {k : Nat} (h : k < l.length) (hc : l[k] = 34) : qGo (l.drop k) = 0 := by
  rw [List.drop_eq_getElem_cons h, hc, qGo_34]
theorem qGo_at92 {l : List UInt8} {k : Nat} (h : k < l.length) (hc : l[k] = 92) : qGo (l.drop k) = qGo (l.drop (k + 2)) + 2 := by
  by_cases h2 : k + 1 < l.length
  · rw [List.drop_eq_getElem_cons h, hc, List.drop_eq_getElem_cons h2, qGo_esc]
  · have e : l.drop (k + 1) = [] := List.drop_eq_nil_of_le (by omega)
    have e2 : l.drop (k + 2) = [] := List.drop_eq_nil_of_le (by omega)
    rw [List.drop_eq_getElem_cons h, hc, e, e2]; rfl
theorem qGo_at {l : List UInt8} {k : Nat} (h : k < l.length) (h1 : l[k] ≠ 34) (h2 : l[k] ≠ 92) : qGo (l.drop k) = qGo (l.drop (k + 1)) + 1 := by
  rw [List.drop_eq_getElem_cons h, qGo_plain h1 h2]
theorem qGo_le : ∀ (n : Nat) (l : List UInt8), l.length ≤ n → qGo l ≤ l.length + 1
  | n, [], _ => by simp [qGo]
  | 0, c :: r, h => by simp at h
  | n + 1, c :: r, h => by
    by_cases h34 : c = 34
    · subst h34; rw [qGo_34]; omega
    · by_cases h92 : c = 92
      · subst h92
        match r with
        | [] => decide
        | x :: r' =>
          have := qGo_le n r' (by simp at h; omega)
          rw [qGo_esc]; simp only [List.length_cons]; omega
      · have := qGo_le n r (by simpa using h)
        rw [qGo_plain h34 h92]; simp only [List.length_cons]; omega

theorem ix_call (s : ByteArray) (w : World) {y : Int} (hy : Lib.indexByte s.data.toList 44 = y) :
    Calls Tryz.prog 140 #[.string s, .int .u8 44] w fun e w' => e = .returned (.int .i64 y) ∧ w = w' := by
  refine (Tryz.strings_IndexByte s 44 w).mono fun e w' ⟨h, h'⟩ => ⟨?_, h'.symm⟩
  rw [h, ← hy]; rfl

set_option maxRecDepth 100000 in
set_option maxHeartbeats 1000000 in
theorem row_literal (s : ByteArray) (w : World) (hs : s.size ≤ 100000) {x : Nat} (hx : litLen s.data.toList = x) :
    Calls Tryz.prog 108 #[.string s] w fun e w' => e = .returned (.int .i64 x) ∧ w = w' := by
  have hll : s.data.toList.length = s.size := by simp
  have tl : s.toList = s.data.toList := Lib.toList_data _
  by_cases h0 : s.size = 0
  · have e0 : s.data.toList = [] := List.eq_nil_of_length_eq_zero (by omega)
    have eD : s.toList.isEmpty = true := by rw [tl, e0]; rfl
    have H1 := fun W => hid (ix_call s W (y := -1) (by rw [e0]; rfl))
    have HX : Hid (x = s.size) := hid (by rw [← hx, e0, h0]; rfl)
    clear hx e0 tl hll h0
    go_enter Tryz.func108, Tryz.ntmps108
    go_wp2_with fail
    refine (H1 _).out.mono ?_
    rintro e w1 ⟨rfl, rfl⟩
    go_wp2
    go_ret
    exact ⟨ret_i (by rw [HX.out]), rfl⟩
  · have hpos : 0 < s.size := by omega
    have eD : s.toList.isEmpty = false := by rw [tl]; simpa using list_ne hpos
    by_cases h34 : s[0].toNat = 34
    · have b34 : ((s[0].toNat : Int) != 34) = false := by rw [bne_eq_false_iff_eq]; omega
      unfold litLen at hx
      rw [first_of hpos, if_pos (UInt8.toNat.inj h34), hll] at hx
      obtain ⟨y, hy⟩ : ∃ y, qGo (s.data.toList.drop 1) + 1 = y := ⟨_, rfl⟩
      have HX : Hid (x = min (y + 1) s.size) := hid (by rw [← hx, ← hy])
      have HY := hid hy
      clear hx hy h34 tl
      go_enter Tryz.func108, Tryz.ntmps108
      go_wp2
      go_loop [4] (fun i => ∃ k : Nat, k ≤ s.size + 1 ∧ i = .int .i64 k ∧ Hid (qGo (s.data.toList.drop k) + k = y)) (fun i => s.size + 2 - (intOf i).toNat)
      case atStart => exact ⟨1, by omega, rfl, HY⟩
      case round =>
        obtain ⟨k, hk, rfl, HK⟩ := hrel
        clear HY
        by_cases hlt : k < s.size
        · have hlt' : k < s.data.toList.length := by omega
          by_cases h34 : s[k].toNat = 34
          · have b1 : ((s[k].toNat : Int) != 34) = false := by rw [bne_eq_false_iff_eq]; omega
            have e : k = y := by rw [← HK.out, qGo_at34 hlt' (UInt8.toNat.inj h34)]; omega
            subst e
            clear HK h34
            go_wp2
            go_ret
            exact ⟨ret_i (by rw [HX.out]; omega), rfl⟩
          · have b1 : ((s[k].toNat : Int) != 34) = true := by rw [bne_iff_ne]; omega
            by_cases h92 : s[k].toNat = 92
            · have b2 : ((s[k].toNat : Int) == 92) = true := by rw [beq_iff_eq]; omega
              have HN : Hid (qGo (s.data.toList.drop (k + 2)) + (k + 2) = y) := hid (by rw [← HK.out, qGo_at92 hlt' (UInt8.toNat.inj h92)]; omega)
              clear HK h34 h92
              go_wp2
              go_round
              case rel => exact ⟨k + 2, by omega, by go_num, HN⟩
              case measure => simp [intOf]; omega
            · have b2 : ((s[k].toNat : Int) == 92) = false := by rw [beq_eq_false_iff_ne]; omega
              have HN : Hid (qGo (s.data.toList.drop (k + 1)) + (k + 1) = y) := hid (by rw [← HK.out, qGo_at hlt' (fun e => h34 (congrArg UInt8.toNat e)) (fun e => h92 (congrArg UInt8.toNat e))]; omega)
              clear HK h34 h92
              go_wp2
              go_round
              case rel => exact ⟨k + 1, by omega, by go_num, HN⟩
              case measure => simp [intOf]; omega
        · have e : k = y := by rw [← HK.out, List.drop_eq_nil_of_le (by omega)]; simp [qGo]
          subst e
          clear HK
          go_wp2
          go_ret
          exact ⟨ret_i (by rw [HX.out]; omega), rfl⟩
    · have b34 : ((s[0].toNat : Int) != 34) = true := by rw [bne_iff_ne]; omega
      unfold litLen at hx
      rw [first_of hpos, if_neg (fun e => h34 (congrArg UInt8.toNat e))] at hx
      rcases ix_lit s.data.toList with ⟨e1, e2⟩ | e
      · have H1 := fun W => hid (ix_call s W e1)
        have HX : Hid (x = s.size) := hid (by rw [← hx, e2, hll])
        clear hx e1 e2 tl hll h34
        go_enter Tryz.func108, Tryz.ntmps108
        go_wp2_with fail
        refine (H1 _).out.mono ?_
        rintro e w1 ⟨rfl, rfl⟩
        go_wp2
        go_ret
        exact ⟨ret_i (by rw [HX.out]), rfl⟩
      · rw [hx] at e
        have H1 := fun W => hid (ix_call s W e)
        clear hx e tl hll h34
        go_enter Tryz.func108, Tryz.ntmps108
        go_wp2_with fail
        refine (H1 _).out.mono ?_
        rintro e w1 ⟨rfl, rfl⟩
        go_wp2
        go_ret
        exact ⟨rfl, rfl⟩
end

/-! ### Cmp -/
section
open Go.RowKit

theorem cmpInt_lt {a b : Int} (h : a < b) : Lib.compareInt a b = -1 := by simp [Lib.compareInt, h]
theorem cmpInt_gt {a b : Int} (h : b < a) : Lib.compareInt a b = 1 := by
  unfold Lib.compareInt; rw [if_neg (by omega), if_pos h]
theorem cmpInt_eq {a b : Int} (h : a = b) : Lib.compareInt a b = 0 := by
  unfold Lib.compareInt; rw [if_neg (by omega), if_neg (by omega)]

set_option maxHeartbeats 400000 in
theorem cmp_int (a b : Int) (w : World) :
    Calls Tryz.prog 99 #[.int .i64 a, .int .i64 b] w fun e w' => e = .returned (.int .i64 (Lib.compareInt a b)) ∧ w = w' := by
  rcases Int.lt_trichotomy a b with h | h | h
  · have H := hid (cmpInt_lt h)
    go_enter Tryz.func99, Tryz.ntmps99
    go_wp2
    go_ret
    exact ⟨ret_i H.out.symm, rfl⟩
  · have H := hid (cmpInt_eq h)
    subst h
    go_enter Tryz.func99, Tryz.ntmps99
    go_wp2
    go_ret
    exact ⟨ret_i H.out.symm, rfl⟩
  · have H := hid (cmpInt_gt h)
    go_enter Tryz.func99, Tryz.ntmps99
    go_wp2
    go_ret
    exact ⟨ret_i H.out.symm, rfl⟩

set_option maxHeartbeats 400000 in
theorem cmp_int64 (a b : Int) (w : World) :
    Calls Tryz.prog 100 #[.int .i64 a, .int .i64 b] w fun e w' => e = .returned (.int .i64 (Lib.compareInt a b)) ∧ w = w' := by
  rcases Int.lt_trichotomy a b with h | h | h
  · have H := hid (cmpInt_lt h)
    go_enter Tryz.func100, Tryz.ntmps100
    go_wp2
    go_ret
    exact ⟨ret_i H.out.symm, rfl⟩
  · have H := hid (cmpInt_eq h)
    subst h
    go_enter Tryz.func100, Tryz.ntmps100
    go_wp2
    go_ret
    exact ⟨ret_i H.out.symm, rfl⟩
  · have H := hid (cmpInt_gt h)
    go_enter Tryz.func100, Tryz.ntmps100
    go_wp2
    go_ret
    exact ⟨ret_i H.out.symm, rfl⟩

theorem strings_cmp (a b : ByteArray) (w : World) :
    Calls Tryz.prog 101 #[.string a, .string b] w fun e w' => e = .returned (.int .i64 (Lib.compareBytes a.data.toList b.data.toList)) ∧ w = w' :=
  (Tryz.strings_Compare a b w).mono fun _ _ ⟨h, h'⟩ => ⟨h, h'.symm⟩

set_option maxHeartbeats 400000 in
theorem value_cmp (a b : V) (w : World) {x : Int} (hx : V.cmp a b = x) :
    Calls Tryz.prog 73 #[.agg #[.int .i64 a.k, .int .i64 a.n, .string a.s], .agg #[.int .i64 b.k, .int .i64 b.n, .string b.s]] w fun e w' => e = .returned (.int .i64 x) ∧ Below w.heap.size w w' := by
  obtain ⟨k, n, s⟩ := a
  obtain ⟨k', n', s'⟩ := b
  have hb := below_two w (.cells #[.int .i64 k, .int .i64 n, .string s] 67) (.cells #[.int .i64 k', .int .i64 n', .string s'] 67)
  by_cases h1 : k = k'
  · by_cases h2 : n = n'
    · have H := hid ((V.cmp_s h1 h2).symm.trans hx)
      clear hx
      subst h1 h2
      go_enter Tryz.func73, Tryz.ntmps73
      go_wp2_with (go_at_call 101; refine (strings_cmp _ _ _).mono ?_; rintro e w' ⟨rfl, rfl⟩)
      go_ret
      exact ⟨ret_i H.out, hb⟩
    · have H := hid ((V.cmp_n h1 h2).symm.trans hx)
      clear hx
      have h2' : (n != n') = true := by simpa using h2
      subst h1
      go_enter Tryz.func73, Tryz.ntmps73
      go_wp2_with (go_at_call 100; refine (cmp_int64 _ _ _).mono ?_; rintro e w' ⟨rfl, rfl⟩)
      go_ret
      exact ⟨ret_i H.out, hb⟩
  · have H := hid ((V.cmp_k h1).symm.trans hx)
    clear hx
    have h1' : (k != k') = true := by simpa using h1
    go_enter Tryz.func73, Tryz.ntmps73
    go_wp2_with (go_at_call 99; refine (cmp_int _ _ _).mono ?_; rintro e w' ⟨rfl, rfl⟩)
    go_ret
    exact ⟨ret_i H.out, hb⟩
end

/-! ### Row -/
section
open Go.RowKit


/-- A slice of values reads as a row. -/
def RowAt (w : World) (A : Option Addr) (r : List V) : Prop :=
  0 < r.length → ∃ b o, A = some ⟨b, o, none⟩ ∧ ∀ i (h : i < r.length),
    w.cell? ⟨b, o + i * 3, none⟩ = some (.int .i64 r[i].k) ∧ w.cell? ⟨b, o + i * 3 + 1, none⟩ = some (.int .i64 r[i].n) ∧ w.cell? ⟨b, o + i * 3 + 2, none⟩ = some (.string r[i].s)

theorem RowAt.below {w w' : World} {A : Option Addr} {r : List V} (h : RowAt w A r) (hb : Below w.heap.size w w') : RowAt w' A r := by
  intro hl
  obtain ⟨b, o, e, hc⟩ := h hl
  refine ⟨b, o, e, fun i hi => ?_⟩
  obtain ⟨h0, h1, h2⟩ := hc i hi
  exact ⟨(hb.cell (cell_lt h0)).trans h0, (hb.cell (cell_lt h1)).trans h1, (hb.cell (cell_lt h2)).trans h2⟩

theorem RowAt.nil {w : World} {A : Option Addr} : RowAt w A [] := fun h => absurd h (by simp)

/-- A slice of flags. -/
def BoolsAt (w : World) (A : Option Addr) (d : List Bool) : Prop :=
  0 < d.length → ∃ b o, A = some ⟨b, o, none⟩ ∧ ∀ i (h : i < d.length), w.cell? ⟨b, o + i, none⟩ = some (.bool d[i])

theorem BoolsAt.below {w w' : World} {A : Option Addr} {r : List Bool} (h : BoolsAt w A r) (hb : Below w.heap.size w w') : BoolsAt w' A r := by
  intro hl
  obtain ⟨b, o, e, hc⟩ := h hl
  exact ⟨b, o, e, fun i hi => (hb.cell (cell_lt (hc i hi))).trans (hc i hi)⟩

theorem BoolsAt.nil {w : World} {A : Option Addr} : BoolsAt w A [] := fun h => absurd h (by simp)

set_option maxRecDepth 100000 in
set_option maxHeartbeats 1000000 in
theorem compareBy (A A' D : Option Addr) (c c' c'' : Nat) (r r' : List V) (d : List Bool) (w : World) {x : Int} (hx : rowCmp d r r' = x) (hr : RowAt w A r) (hr' : RowAt w A' r') (hd : BoolsAt w D d)
    (hl : r.length ≤ 100000) (hl' : r'.length ≤ 100000) (hl'' : d.length ≤ 100000) :
    Calls Tryz.prog 53 #[.slice A r.length c, .slice A' r'.length c', .slice D d.length c''] w fun e w' => e = .returned (.int .i64 x) ∧ Below w.heap.size w w' := by
  have HX := hid hx
  clear hx
  go_enter Tryz.func53, Tryz.ntmps53
  go_wp2
  go_loopw [14] (fun i wr => ∃ k : Nat, k ≤ r.length ∧ k ≤ r'.length ∧ i = .int .i64 k ∧ Below w.heap.size w wr ∧ Hid (rowCmp (d.drop k) (r.drop k) (r'.drop k) = x)) (fun i _ => r.length - (intOf i).toNat)
  case atStart => exact ⟨0, by omega, by omega, rfl, Below.refl _ _, HX⟩
  case round =>
    obtain ⟨k, hk, hk', rfl, hbel, hinv⟩ := hrel
    clear HX
    by_cases hlt : k < r.length ∧ k < r'.length
    · obtain ⟨h1, h2⟩ := hlt
      obtain ⟨b, o, rfl, hcell⟩ := hr (by omega)
      obtain ⟨b', o', rfl, hcell'⟩ := hr' (by omega)
      obtain ⟨c0, c1, c2⟩ := hcell k h1
      obtain ⟨d0, d1, d2⟩ := hcell' k h2
      rw [← hbel.cell (cell_lt c0)] at c0
      rw [← hbel.cell (cell_lt c1)] at c1
      rw [← hbel.cell (cell_lt c2)] at c2
      rw [← hbel.cell (cell_lt d0)] at d0
      rw [← hbel.cell (cell_lt d1)] at d1
      rw [← hbel.cell (cell_lt d2)] at d2
      clear hcell hcell'
      have hst := fun e => rowCmp_step (d := d) h1 h2 e
      have hsp := fun e => rowCmp_stop (d := d) h1 h2 e
      have hrg := V.cmp_range r[k] r'[k]
      generalize r[k] = v at *
      generalize r'[k] = v' at *
      obtain ⟨y, hy⟩ : ∃ y, V.cmp v v' = y := ⟨_, rfl⟩
      rw [hy] at hst hsp hrg
      obtain ⟨hy1, hy2⟩ := hrg
      have Hst := hid hst
      have Hsp := hid hsp
      clear hst hsp hr hr'
      have hvc := fun W => hid (value_cmp v v' W hy)
      clear hy
      go_wp2
      go_still_tail 8, (by kernel_rfl)
      change wpList _ _ _ _ _ wr.drew
      by_cases hy0 : y = 0
      · have e := Hst.out hy0
        subst hy0
        have Hi : Hid (rowCmp (d.drop (k + 1)) (r.drop (k + 1)) (r'.drop (k + 1)) = x) := hid (e.symm.trans hinv.out)
        clear e Hst Hsp hinv
        go_wp2_with (go_at_call 73; refine ((hvc _).out).mono ?_; rintro e w1 ⟨rfl, hb1⟩)
        go_roundw
        case rel => exact ⟨k + 1, by omega, by omega, by go_num, hbel.drew.trans (hb1.mono hbel.size), Hi⟩
        case measure => simp [intOf]; omega
      · have hy0' : (y == 0) = false := by simpa using hy0
        have e := Hsp.out hy0
        clear Hst Hsp hy0
        have e2 : Hid ((if d.getD k false then -y else y) = x) := hid (e.symm.trans hinv.out)
        clear e hinv
        by_cases hd1 : k < d.length
        · obtain ⟨bd, od, rfl, hdc⟩ := hd (by omega)
          have f0 := hdc k hd1
          rw [← hbel.cell (cell_lt f0)] at f0
          clear hdc hd
          have hgd : d.getD k false = d[k] := by simp [List.getD, hd1]
          rw [hgd] at e2
          generalize d[k] = q at *
          cases q
          · have e3 : Hid (y = x) := by simpa using e2
            clear e2
            go_wp2_with (go_at_call 73; refine ((hvc _).out).mono ?_; rintro e w1 ⟨rfl, hb1⟩; have f1 := (hb1.cell (p := ⟨bd, od + k, none⟩) (cell_lt f0)).trans f0)
            go_ret
            exact ⟨ret_i e3.out, hbel.drew.trans (hb1.mono hbel.size)⟩
          · have e3 : Hid (-y = x) := by simpa using e2
            clear e2
            go_wp2_with (go_at_call 73; refine ((hvc _).out).mono ?_; rintro e w1 ⟨rfl, hb1⟩; have f1 := (hb1.cell (p := ⟨bd, od + k, none⟩) (cell_lt f0)).trans f0)
            go_ret
            exact ⟨ret_i e3.out, hbel.drew.trans (hb1.mono hbel.size)⟩
        · have hgd : d.getD k false = false := by simp [List.getD, show ¬ k < d.length from hd1]
          rw [hgd] at e2
          have e3 : Hid (y = x) := by simpa using e2
          clear e2 hgd
          go_wp2_with (go_at_call 73; refine ((hvc _).out).mono ?_; rintro e w1 ⟨rfl, hb1⟩)
          go_ret
          exact ⟨ret_i e3.out, hbel.drew.trans (hb1.mono hbel.size)⟩
    · have e := rowCmp_end (d := d) hk hk' (by omega)
      have e2 : Hid ((if r.length < r'.length then (-1 : Int) else if r'.length < r.length then 1 else 0) = x) := hid (e.symm.trans hinv.out)
      clear e hinv
      by_cases hA : r.length < r'.length
      · have e3 : Hid (-1 = x) := hid (by have := e2.out; rwa [if_pos hA] at this)
        clear e2
        go_wp2
        go_ret
        exact ⟨ret_i e3.out, hbel⟩
      · by_cases hB : r'.length < r.length
        · have e3 : Hid (1 = x) := hid (by have := e2.out; rwa [if_neg hA, if_pos hB] at this)
          clear e2
          go_wp2
          go_ret
          exact ⟨ret_i e3.out, hbel⟩
        · have e3 : Hid (0 = x) := hid (by have := e2.out; rwa [if_neg hA, if_neg hB] at this)
          clear e2
          go_wp2
          go_ret
          exact ⟨ret_i e3.out, hbel⟩
end

/-! ### Build -/
section
open Go.RowKit

def bldRen : Go.Shelf.Ren := ⟨fun | 240 => 35 | 276 => 50 | 167 => 26 | 166 => 21 | n => n, fun | 0 => 0 | 3 => 3 | 4 => 4 | 5 => 5 | 9 => 9 | 20 => 20 | 37 => 52 | 70 => 51 | 72 => 54 | 75 => 57 | 80 => 45 | 164 => 98 | n => n, fun | n => n⟩
theorem bldLays240 : Go.Proofs.Lays.n240 Tryz.prog bldRen := {
  mixed := by kernel_rfl
  f240 := Tryz.func35.trans (congrArg some (by kernel_rfl))
  f276 := Tryz.func50.trans (congrArg some (by kernel_rfl))
  t0 := Tryz.underlying0
  a0 := Tryz.isAgg0
  z0 := Tryz.sizeOf0
  v0 := Tryz.zeroValue0
  t4 := Tryz.underlying4
  a4 := Tryz.isAgg4
  z4 := Tryz.sizeOf4
  v4 := Tryz.zeroValue4
  t9 := Tryz.underlying9
  a9 := Tryz.isAgg9
  z9 := Tryz.sizeOf9
  v9 := Tryz.zeroValue9
  t20 := Tryz.underlying20
  a20 := Tryz.isAgg20
  z20 := Tryz.sizeOf20
  v20 := Tryz.zeroValue20
  t70 := Tryz.underlying51
  a70 := Tryz.isAgg51
  z70 := Tryz.sizeOf51
  v70 := Tryz.zeroValue51
  t72 := Tryz.underlying54
  a72 := Tryz.isAgg54
  z72 := Tryz.sizeOf54
  v72 := Tryz.zeroValue54
  t164 := Tryz.underlying98
  a164 := Tryz.isAgg98
  z164 := Tryz.sizeOf98
  v164 := Tryz.zeroValue98 }
theorem bldLays167 : Go.Proofs.Lays.n167 Tryz.prog bldRen := {
  mixed := by kernel_rfl
  f167 := Tryz.func26.trans (congrArg some (by kernel_rfl))
  f240 := Tryz.func35.trans (congrArg some (by kernel_rfl))
  f276 := Tryz.func50.trans (congrArg some (by kernel_rfl))
  t0 := Tryz.underlying0
  a0 := Tryz.isAgg0
  z0 := Tryz.sizeOf0
  v0 := Tryz.zeroValue0
  t4 := Tryz.underlying4
  a4 := Tryz.isAgg4
  z4 := Tryz.sizeOf4
  v4 := Tryz.zeroValue4
  t5 := Tryz.underlying5
  a5 := Tryz.isAgg5
  z5 := Tryz.sizeOf5
  v5 := Tryz.zeroValue5
  t9 := Tryz.underlying9
  a9 := Tryz.isAgg9
  z9 := Tryz.sizeOf9
  v9 := Tryz.zeroValue9
  t20 := Tryz.underlying20
  a20 := Tryz.isAgg20
  z20 := Tryz.sizeOf20
  v20 := Tryz.zeroValue20
  t37 := Tryz.underlying52
  a37 := Tryz.isAgg52
  z37 := Tryz.sizeOf52
  v37 := Tryz.zeroValue52
  t70 := Tryz.underlying51
  a70 := Tryz.isAgg51
  z70 := Tryz.sizeOf51
  v70 := Tryz.zeroValue51
  t72 := Tryz.underlying54
  a72 := Tryz.isAgg54
  z72 := Tryz.sizeOf54
  v72 := Tryz.zeroValue54
  t75 := Tryz.underlying57
  a75 := Tryz.isAgg57
  z75 := Tryz.sizeOf57
  v75 := Tryz.zeroValue57
  t164 := Tryz.underlying98
  a164 := Tryz.isAgg98
  z164 := Tryz.sizeOf98
  v164 := Tryz.zeroValue98 }
theorem bldLays166 : Go.Proofs.Lays.n166 Tryz.prog bldRen := {
  mixed := by kernel_rfl
  f166 := Tryz.func21.trans (congrArg some (by kernel_rfl))
  f240 := Tryz.func35.trans (congrArg some (by kernel_rfl))
  f276 := Tryz.func50.trans (congrArg some (by kernel_rfl))
  t0 := Tryz.underlying0
  a0 := Tryz.isAgg0
  z0 := Tryz.sizeOf0
  v0 := Tryz.zeroValue0
  t3 := Tryz.underlying3
  a3 := Tryz.isAgg3
  z3 := Tryz.sizeOf3
  v3 := Tryz.zeroValue3
  t4 := Tryz.underlying4
  a4 := Tryz.isAgg4
  z4 := Tryz.sizeOf4
  v4 := Tryz.zeroValue4
  t9 := Tryz.underlying9
  a9 := Tryz.isAgg9
  z9 := Tryz.sizeOf9
  v9 := Tryz.zeroValue9
  t20 := Tryz.underlying20
  a20 := Tryz.isAgg20
  z20 := Tryz.sizeOf20
  v20 := Tryz.zeroValue20
  t37 := Tryz.underlying52
  a37 := Tryz.isAgg52
  z37 := Tryz.sizeOf52
  v37 := Tryz.zeroValue52
  t70 := Tryz.underlying51
  a70 := Tryz.isAgg51
  z70 := Tryz.sizeOf51
  v70 := Tryz.zeroValue51
  t72 := Tryz.underlying54
  a72 := Tryz.isAgg54
  z72 := Tryz.sizeOf54
  v72 := Tryz.zeroValue54
  t75 := Tryz.underlying57
  a75 := Tryz.isAgg57
  z75 := Tryz.sizeOf57
  v75 := Tryz.zeroValue57
  t164 := Tryz.underlying98
  a164 := Tryz.isAgg98
  z164 := Tryz.sizeOf98
  v164 := Tryz.zeroValue98 }
theorem bldExtra : Builder.Extra Tryz.prog bldRen := {
  sizeBuilder := by kernel_rfl
  liesBuilder := by kernel_rfl
  t5 := Tryz.underlying5
  a5 := Tryz.isAgg5
  z5 := Tryz.sizeOf5
  v5 := Tryz.zeroValue5
  infoByte := by kernel_rfl
  cellsByte := by kernel_rfl
  sizeByte := by kernel_rfl
  neB5 := by decide }


theorem writeByte (B b : Nat) (bs : List Value) (c : Int) (w : World) (h : Lib.IsBuilder 54 5 B b bs w) (hlen : bs.length + 1 ≤ 140737488355328) (hBw : B ≤ w.heap.size) :
    Calls Tryz.prog 26 #[.pointer (some ⟨b, 0, none⟩), .int .u8 c] w fun e w' => e = .returned .nilIface ∧ (Lib.BuilderAt 54 5 B b (.pointer (some ⟨b, 0, none⟩)) (bs ++ [.int .u8 c]) w' ∧ Below B w w') :=
  Any.Builder_WriteByte bldLays167 bldExtra B b bs c w h hlen hBw

theorem writeString (B b : Nat) (bs : List Value) (s : ByteArray) (w : World) (h : Lib.IsBuilder 54 5 B b bs w) (hlen : bs.length + s.size ≤ 140737488355328) (hBw : B ≤ w.heap.size) :
    Calls Tryz.prog 21 #[.pointer (some ⟨b, 0, none⟩), .string s] w fun e w' => e = .returned (.tuple #[.int .i64 s.size, .nilIface]) ∧ (Lib.BuilderAt 54 5 B b (.pointer (some ⟨b, 0, none⟩)) (bs ++ Lib.strCells s) w' ∧ Below B w w') :=
  Any.Builder_WriteString bldLays166 bldExtra B b bs s w h hlen hBw

end
end Go.Proofs.YtjhnopnppimnhaaGreatDoor
