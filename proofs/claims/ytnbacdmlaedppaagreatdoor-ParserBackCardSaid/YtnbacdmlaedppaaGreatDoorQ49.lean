/-
  PARTS of a claim, merged by segs.py: Prt.
-/
import Derived.Test.YtnbacdmlaedppaaGreatDoorQ06
import Derived.Test.YtnbacdmlaedppaaGreatDoorQ46
import Derived.Test.YtnbacdmlaedppaaGreatDoorQ07
import Derived.Test.YtnbacdmlaedppaaGreatDoorQ08
import Derived.Test.YtnbacdmlaedppaaGreatDoorQ14
import Derived.Test.YtnbacdmlaedppaaGreatDoorQ12
import Derived.Test.YtnbacdmlaedppaaGreatDoorQ31
import Derived.Shelf.Strings.BuilderK
import Derived.StillTailTactics
import Derived.Lib.ItoaLen
import Derived.Deep.RegionHeld3
namespace Go.Proofs.YtnbacdmlaedppaaGreatDoor

/-! ### Prt -/
section
open Go.RowKit

/-! ### BldP -/

theorem sizeBld : (Tryz.prog.info? 54).map (·.size) = some 2 := by kernel_rfl
theorem liesBld : liesAt Tryz.prog Tryz.prog.depth 96 (2 / Tryz.prog.cellsOf 96) 0 54 1 = true := by kernel_rfl
theorem infoU8 : (Tryz.prog.info? 5).map (fun i => (i.zero, i.size, i.bytes)) = some (some (.int .u8 0), 1, 1) := by kernel_rfl
theorem cellsU8 : Tryz.prog.cellsOf 5 = 1 := by kernel_rfl

/-- The printer: block b. -/
abbrev Prn (B b : Nat) (l : List UInt8) (w : World) : Prop := Lib.IsBuilderF 96 5 B b (Lib.byteCells l) w
abbrev Kp (b : Nat) (w w' : World) : Prop := Lib.OthersKept 5 (some b) w w'

set_option maxHeartbeats 1000000 in
set_option maxRecDepth 100000 in
theorem cc_used (b : Nat) (w : World) (h0 : w.cell? ⟨b, 0, none⟩ = some (.pointer (some ⟨b, 0, none⟩))) :
    Calls Tryz.prog 39 #[.pointer (some ⟨b, 0, none⟩)] w fun e w' => e = .returned (.tuple #[]) ∧ w' = w := by
  obtain ⟨j, hj, _⟩ := Option.map_eq_some_iff.1 sizeBld
  go_enter Tryz.func39, Tryz.ntmps39
  go_wp2
  rw [Lib.run_neq_ptr_same w _ Tryz.underlying52 hj]
  go_wp2
  go_end0
  exact ⟨rfl, rfl⟩

set_option maxHeartbeats 1000000 in
set_option maxRecDepth 100000 in
theorem cc_fresh (b : Nat) (w : World) (h0 : w.cell? ⟨b, 0, none⟩ = some (.pointer none)) (hsh : w.shape? b = some (96, 2)) (hfz : w.frozen? ⟨b, 0, none⟩ = false) :
    Calls Tryz.prog 39 #[.pointer (some ⟨b, 0, none⟩)] w fun e w' => e = .returned (.tuple #[]) ∧ w' = w.setCell ⟨b, 0, none⟩ (.pointer (some ⟨b, 0, none⟩)) := by
  obtain ⟨j, hj, hjs⟩ := Option.map_eq_some_iff.1 sizeBld
  go_enter Tryz.func39, Tryz.ntmps39
  go_wp2
  rw [Lib.run_to_unsafe w ⟨b, 0, none⟩ Tryz.underlying52 Tryz.underlying131 hj (by rw [hjs]; decide) hsh (Nat.zero_lt_succ 1)]
  simp only [Result.andThen]
  rw [Oper.upon_value]
  go_wp2
  rw [run_callFunc_extern Tryz.func74 (by kernel_rfl) (by kernel_rfl) (by kernel_rfl) (e := Extern.AbiNoEscape.same) (by kernel_rfl)]
  rw [Lib.run_noEscape]
  simp only [Result.andThen]
  rw [Oper.upon_value]
  go_wp2
  rw [Lib.run_from_unsafe w ⟨b, 0, none⟩ Tryz.underlying131 Tryz.underlying52 hj hsh liesBld]
  simp only [Result.andThen]
  rw [Oper.upon_value]
  go_wp2
  go_end0
  exact ⟨rfl, rfl⟩

theorem p_copyCheck (B b : Nat) (bs : List Value) (w : World) (h : Lib.IsBuilderF 96 5 B b bs w) :
    Calls Tryz.prog 39 #[.pointer (some ⟨b, 0, none⟩)] w fun e w' => e = .returned (.tuple #[]) ∧ (Lib.BuilderAtF 96 5 B b (.pointer (some ⟨b, 0, none⟩)) bs w' ∧ Below B w w' ∧ Kp b w w') := by
  rcases h with h | h
  · refine (cc_fresh b w h.cell0 h.shape h.frozen0).mono ?_
    rintro e w' ⟨rfl, rfl⟩
    exact ⟨rfl, h.used _, (Below.refl B w).setCell (p := ⟨b, 0, none⟩) h.1 _, (Lib.OthersKept.refl _ _ w).setCell ⟨b, 0, none⟩ rfl _⟩
  · refine (cc_used b w h.cell0).mono ?_
    rintro e w' ⟨rfl, rfl⟩
    exact ⟨rfl, h, Below.refl B _, Lib.OthersKept.refl _ _ _⟩

set_option maxHeartbeats 2000000 in
set_option maxRecDepth 100000 in
theorem p_write0 (B b : Nat) (bs : List Value) (s : ByteArray) (w : World) (h : Lib.IsBuilderF 96 5 B b bs w) (hlen : bs.length + s.size ≤ 140737488355328) (hBw : B ≤ w.heap.size) :
    Calls Tryz.prog 18 #[.pointer (some ⟨b, 0, none⟩), .string s] w fun e w' => e = .returned (.tuple #[.int .i64 s.size, .nilIface]) ∧ (Lib.BuilderAtF 96 5 B b (.pointer (some ⟨b, 0, none⟩)) (bs ++ Lib.strCells s) w' ∧ Below B w w' ∧ Kp b w w') := by
  obtain ⟨i0, hi, hz0, hz1, hz2⟩ := info_parts infoU8
  go_enter Tryz.func18, Tryz.ntmps18
  go_wp2_with (go_at_call 39; refine (p_copyCheck B b bs _ h).mono ?_)
  rintro e w1 ⟨rfl, h1, hb1, hk1⟩
  obtain ⟨hB, v, hbk, hown, hne⟩ := h1
  have c0 : w1.cell? ⟨b, 0, none⟩ = some (.pointer (some ⟨b, 0, none⟩)) := by rw [Lib.cell_of_heap hbk]; rfl
  have c1 : w1.cell? ⟨b, 1, none⟩ = some v := by rw [Lib.cell_of_heap hbk]; rfl
  go_wp2_with (at_builtin; refine Lib.wpList_append_own_stringF _ rfl _ _ 48 9 rfl B 5 i0 Tryz.underlying48 Tryz.underlying9 hi hz0 hz1 hz2 _ _ _ rfl hown s rfl ?c3 ?c4 ?c5 ?_)
  case c3 => unfold maxLen; omega
  case c4 => omega
  case c5 => have := hb1.size; omega
  intro v' w2 hown' hgrow _
  have hlt : b < w1.heap.size := by
    rcases Nat.lt_or_ge b w1.heap.size with h' | h'
    · exact h'
    · simp [Array.getElem?_eq_none h'] at hbk
  have hb2 : w2.heap[b]? = some (.cells #[.pointer (some ⟨b, 0, none⟩), v] 96 (0, 0)) := by
    rw [hgrow.block b hlt (fun e => hne e.symm)]
    exact hbk
  have d0 : w2.cell? ⟨b, 0, none⟩ = some (.pointer (some ⟨b, 0, none⟩)) := by rw [Lib.cell_of_heap hb2]; rfl
  have d1 : w2.cell? ⟨b, 1, none⟩ = some v := by rw [Lib.cell_of_heap hb2]; rfl
  have f1 : w2.frozen? ⟨b, 1, none⟩ = false := Lib.frozen_of_heap hb2 1
  obtain ⟨ao, n', cap, rfl⟩ : ∃ ao n' cap, v' = .slice ao n' cap := by
    rcases hown'.2 with ⟨hv, _⟩ | ⟨g, cap, cur, fz, hv, _⟩
    · exact ⟨_, _, _, hv⟩
    · exact ⟨_, _, _, hv⟩
  go_wp2
  go_ret2
  refine ⟨rfl, ?_, ?_, (hk1.grown hgrow (Lib.ownsRowF_kind hown)).setCell ⟨b, 1, none⟩ rfl _⟩
  · exact Lib.BuilderAtF.put hB hb2 (bs' := bs ++ Lib.strCells s) (by simpa [Lib.strCells_length] using hown') (by decide)
  · exact (hb1.grown hgrow (by have := hb1.size; omega) (fun k hk => (hown.lt k hk).1)).setCell (p := ⟨b, 1, none⟩) hB _

set_option maxHeartbeats 1000000 in
set_option maxRecDepth 100000 in
theorem p_len (B b : Nat) (l : List UInt8) (w : World) (h : Prn B b l w) :
    Calls Tryz.prog 43 #[.pointer (some ⟨b, 0, none⟩)] w fun e w' => e = .returned (.int .i64 l.length) ∧ w' = w := by
  obtain ⟨p, hB, v, hbk, hown, hne⟩ : ∃ p, Lib.BuilderAtF 96 5 B b p (Lib.byteCells l) w := by
    rcases h with h | h
    · exact ⟨_, h⟩
    · exact ⟨_, h⟩
  rw [Lib.byteCells_length] at hown
  obtain ⟨ao, cap, rfl⟩ : ∃ ao cap, v = .slice ao l.length cap := by
    rcases hown.2 with ⟨hv, h0⟩ | ⟨g, cap, cur, fz, hv, _⟩
    · exact ⟨none, 0, by rw [hv, h0]⟩
    · exact ⟨_, _, hv⟩
  have c1 : w.cell? ⟨b, 1, none⟩ = some (.slice ao l.length cap) := by rw [Lib.cell_of_heap hbk]; rfl
  go_enter Tryz.func43, Tryz.ntmps43
  go_wp2
  go_ret
  exact ⟨rfl, rfl⟩

set_option maxHeartbeats 1000000 in
set_option maxRecDepth 100000 in
theorem p_string (B b : Nat) (l : List UInt8) (w : World) (h : Prn B b l w) (h0 : l ≠ []) :
    Calls Tryz.prog 19 #[.pointer (some ⟨b, 0, none⟩)] w fun e w' => e = .returned (.string ⟨l.toArray⟩) ∧ Below B w w' := by
  obtain ⟨p, hp, hAt⟩ : ∃ p, (p = .pointer none ∨ p = .pointer (some ⟨b, 0, none⟩)) ∧ Lib.BuilderAtF 96 5 B b p (Lib.byteCells l) w := by
    rcases h with h | h
    · exact ⟨_, .inl rfl, h⟩
    · exact ⟨_, .inr rfl, h⟩
  obtain ⟨hB, v, hbk, hown, hne⟩ := hAt
  have hl0 : l.length ≠ 0 := by simpa using h0
  rw [Lib.byteCells_length] at hown
  obtain ⟨g, cap, cur, fz, rfl, hbg, hg, hfz, hnc, hcm, hcs, htake⟩ : ∃ g cap cur fz, v = .slice (some ⟨g, 0, none⟩) l.length cap ∧ B ≤ g ∧ w.heap[g]? = some (.cells cur 5 fz) ∧ fz.2 ≤ l.length * 1 ∧ l.length ≤ cap ∧ cap ≤ maxLen ∧ cur.size = cap * 1 ∧ cur.toList.take (l.length * 1) = Lib.byteCells l := by
    rcases hown.2 with ⟨_, hz⟩ | ⟨g, cap, cur, fz, hv, r⟩
    · exact absurd hz hl0
    · exact ⟨g, cap, cur, fz, hv, r⟩
  have c1 : w.drew.cell? ⟨b, 1, none⟩ = some (.slice (some ⟨g, 0, none⟩) l.length cap) := by
    have : w.drew.heap[b]? = some (.cells #[p, .slice (some ⟨g, 0, none⟩) l.length cap] 96 (0, 0)) := hbk
    rw [Lib.cell_of_heap this]; rfl
  have hSD : (Builtin.unsafeSliceData_ #[48] 93 #[.slice (some ⟨g, 0, none⟩) l.length cap]).run Tryz.prog w.drew = .ok (.pointer (some ⟨g, 0, none⟩)) w.drew :=
    Lib.run_unsafeSliceData_row _ _ _ _ _ _ (by omega)
  have hUS : (Builtin.unsafeString_ #[93, 3] 9 #[.pointer (some ⟨g, 0, none⟩), .int .i64 l.length]).run Tryz.prog w.drew = .ok (.string ⟨l.toArray⟩) (w.drew.freeze ⟨g, 0, none⟩ l.length) := by
    refine Lib.run_unsafeString_row w.drew 93 3 9 5 Tryz.underlying93 cellsU8 g cur.size (by have hg' : w.drew.heap[g]? = some (.cells cur 5 fz) := hg; simp [World.shape?, hg']) l h0 (by omega) (by unfold maxLen at hcm; omega) ?_
    intro j x hx
    have := hown.cells (g := g) rfl j (.int .u8 x.toNat) (by simp [Lib.byteCells, hx])
    exact this
  have mixed : Tryz.prog.follows .mixedOrders = true := by kernel_rfl
  go_enter Tryz.func19, Tryz.ntmps19
  go_wp2
  go_region_o
  all_goals (go_wp2; go_ret; exact ⟨rfl, Lib.below_freeze (Below.drew (Below.refl B w)) (p := ⟨g, 0, none⟩) hbg _⟩)

/-- What the callers take: a string of literal bytes goes in. -/
theorem p_write (B b : Nat) (l x : List UInt8) (w : World) (h : Prn B b l w) (hlen : l.length + x.length ≤ 140737488355328) (hBw : B ≤ w.heap.size) :
    Calls Tryz.prog 18 #[.pointer (some ⟨b, 0, none⟩), .string ⟨x.toArray⟩] w fun e w' => e = .returned (.tuple #[.int .i64 x.length, .nilIface]) ∧ (Prn B b (l ++ x) w' ∧ Below B w w' ∧ Kp b w w') := by
  have hsz : (⟨x.toArray⟩ : ByteArray).size = x.length := by simp [ByteArray.size]
  refine (p_write0 B b (Lib.byteCells l) ⟨x.toArray⟩ w h (by rw [Lib.byteCells_length, hsz]; exact hlen) hBw).mono ?_
  rintro e w' ⟨rfl, h1, h2, h3⟩
  refine ⟨by rw [hsz], .inr ?_, h2, h3⟩
  rw [Lib.byteCells_append]
  exact h1


/-! ### Pr1 -/

set_option maxRecDepth 100000 in
theorem ast_operator (o : Int) (w : World) : Calls Tryz.prog 77 #[.int .i64 o] w fun e w' => e = .returned (.string ⟨(opS o).toArray⟩) ∧ Below w.heap.size w w' := by
  by_cases h0 : o = 0
  · subst h0
    go_enter Tryz.func77, Tryz.ntmps77
    go_wp2
    go_ret
    exact ⟨rfl, Below.refl _ _⟩
  by_cases h1 : o = 1
  · subst h1
    go_enter Tryz.func77, Tryz.ntmps77
    go_wp2
    go_ret
    exact ⟨rfl, Below.refl _ _⟩
  by_cases h2 : o = 2
  · subst h2
    go_enter Tryz.func77, Tryz.ntmps77
    go_wp2
    go_ret
    exact ⟨rfl, Below.refl _ _⟩
  by_cases h3 : o = 3
  · subst h3
    go_enter Tryz.func77, Tryz.ntmps77
    go_wp2
    go_ret
    exact ⟨rfl, Below.refl _ _⟩
  by_cases h4 : o = 4
  · subst h4
    go_enter Tryz.func77, Tryz.ntmps77
    go_wp2
    go_ret
    exact ⟨rfl, Below.refl _ _⟩
  have b0 : (o == 0) = false := by simpa using h0
  have b1 : (o == 1) = false := by simpa using h1
  have b2 : (o == 2) = false := by simpa using h2
  have b3 : (o == 3) = false := by simpa using h3
  have b4 : (o == 4) = false := by simpa using h4
  have hs : opS o = [62, 61] := by unfold opS; rw [if_neg h0, if_neg h1, if_neg h2, if_neg h3, if_neg h4]
  rw [hs]
  clear hs h0 h1 h2 h3 h4
  go_enter Tryz.func77, Tryz.ntmps77
  go_wp2
  go_ret
  exact ⟨rfl, Below.refl _ _⟩

/-! ### Pr2 -/

/-- The printer and memory. -/
theorem ownF_below {w w' : World} {B : Nat} {e : TypeId} {size n : Nat} {v : Value} {xs : List Value} (h : w.ownsRowF B e size v n xs) (hb : Below w.heap.size w w') : w'.ownsRowF B e size v n xs := by
  obtain ⟨hl, h0 | ⟨g, cap, cur, fz, hv, hB, hh, r⟩⟩ := h
  · exact ⟨hl, .inl h0⟩
  · have hg : g < w.heap.size := (Array.getElem?_eq_some_iff.1 hh).1
    exact ⟨hl, .inr ⟨g, cap, cur, fz, hv, hB, (hb.block g hg).trans hh, r⟩⟩
theorem Prn.below {B b : Nat} {l : List UInt8} {w w' : World} (h : Prn B b l w) (hb : Below w.heap.size w w') : Prn B b l w' := by
  have key : ∀ p, Lib.BuilderAtF 96 5 B b p (Lib.byteCells l) w → Lib.BuilderAtF 96 5 B b p (Lib.byteCells l) w' := by
    intro p hp
    have hlt := hp.lt
    obtain ⟨hB, v, hbk, hown, hne⟩ := hp
    exact ⟨hB, v, (hb.block b hlt).trans hbk, ownF_below hown hb, hne⟩
  exact h.elim (fun h => .inl (key _ h)) (fun h => .inr (key _ h))
theorem Prn.lt {B b : Nat} {l : List UInt8} {w : World} (h : Prn B b l w) : b < w.heap.size := h.elim (·.lt) (·.lt)
theorem Prn.le {B b : Nat} {l : List UInt8} {w : World} (h : Prn B b l w) : B ≤ b := h.elim (·.1) (·.1)
theorem Kp.below {b : Nat} {a w w' : World} (h : Kp b a w) (hb : Below w.heap.size w w') : Kp b a w' := fun k o hk hn ho => by
  have h1 := h k o hk hn ho
  exact (hb.block k (Array.getElem?_eq_some_iff.1 h1).1).trans h1
theorem Kp.block {b g : Nat} {w w' : World} {cs : Array Value} {t : TypeId} {fz : Nat × Nat} (h : Kp b w w') (hg : w.heap[g]? = some (.cells cs t fz)) (hne : g ≠ b) (ht : t ≠ 5) : w'.heap[g]? = some (.cells cs t fz) :=
  h g _ hg (fun e => hne (Option.some.inj e)) (fun c f e => by injection e with _ e2 _; exact ht e2)

/-- WriteString, as the printer's own walks take it. -/
theorem p_put (B b : Nat) (l : Str) (s : ByteArray) (w : World) (h : Prn B b l w) (hB : B ≤ w.heap.size) (hlen : l.length + s.size ≤ 1000000) {y : Str} (hy : l ++ s.data.toList = y) :
    Calls Tryz.prog 18 #[.pointer (some ⟨b, 0, none⟩), .string s] w fun e w' => e = .returned (.tuple #[.int .i64 s.size, .nilIface]) ∧ (Prn B b y w' ∧ Below B w w' ∧ Kp b w w') := by
  have e : s = ⟨s.data.toList.toArray⟩ := by cases s; simp
  have hs : s.data.toList.length = s.size := by simp
  have := p_write B b l s.data.toList w h (by rw [hs]; omega) hB
  rw [← e, hs, hy] at this
  exact this

theorem join_succ {α : Type} (f : α → Str) (s : Str) {l : List α} {k : Nat} (h : k < l.length) : joinS s ((l.take (k + 1)).map f) = joinS s ((l.take k).map f) ++ (if k = 0 then f l[k] else s ++ f l[k]) := by
  rw [List.take_succ_eq_append_getElem h, List.map_append]
  show joinS s (_ ++ [f l[k]]) = _
  rw [joinS_snoc]
  congr 1
  by_cases h0 : k = 0
  · subst h0; simp
  · rw [if_neg h0, if_neg]
    intro e
    rcases List.take_eq_nil_iff.1 (List.map_eq_nil_iff.1 e) with h1 | h1
    · exact h0 h1
    · rw [h1] at h; exact absurd h (by simp)

/-- What can be printed. -/
def TrmOk (t : Trm) : Prop := t.v.length ≤ 16 ∧ (t.v = [] → t.c.valid = true ∧ I64 t.c.n)
def AtmOk (a : Atm) : Prop := a.rel.length ≤ 16 ∧ a.ts.length ≤ 6 ∧ ∀ t ∈ a.ts, TrmOk t
theorem textL_small {v : V} (hv : v.valid = true) (hn : I64 v.n) : v.s.size ≤ 24 ∧ (textL v).length ≤ 100 := by
  by_cases h1 : v.k = 1
  · have hs : v.s.toList.isEmpty = true := by simpa [V.valid, h1] using hv
    have hs0 : v.s.size = 0 := by
      rw [Lib.toList_data] at hs
      have : v.s.data.toList = [] := by simpa using hs
      have e : v.s.data.toList.length = v.s.size := by simp
      rw [this] at e; simpa using e.symm
    refine ⟨by omega, ?_⟩
    rw [textL_int hv h1]
    have := Lib.itoa_length_le v.n hn.1 hn.2
    omega
  · have h2 : v.k = 2 := by
      apply Classical.byContradiction
      intro h2
      simp [V.valid, h1, h2] at hv
    have hs : v.s.size ≤ 24 := by
      have : v.n = 0 ∧ v.s.size ≤ 24 := by simpa [V.valid, h2] using hv
      exact this.2
    refine ⟨hs, ?_⟩
    rw [textL_str hv h1]
    have := quoteL_le v.s.data.toList
    have e : v.s.data.toList.length = v.s.size := by simp
    omega
theorem termS_len {t : Trm} (h : TrmOk t) : (termS t).length ≤ 100 := by
  unfold termS
  split
  · rename_i h0
    exact (textL_small (h.2 h0).1 (h.2 h0).2).2
  · have := h.1; omega
theorem join_len {α : Type} (f : α → Str) (s : Str) (m : Nat) : ∀ (l : List α), (∀ x ∈ l, (f x).length ≤ m) → (joinS s (l.map f)).length ≤ l.length * (s.length + m)
  | [], _ => by simp [joinS]
  | x :: l, h => by
    have key : ∀ l : List α, (∀ x ∈ l, (f x).length ≤ m) → ((l.map f).flatMap fun y => s ++ y).length ≤ l.length * (s.length + m) := by
      intro l
      induction l with
      | nil => intro _; simp
      | cons y l ih =>
        intro h
        have h1 := ih fun x hx => h x (List.mem_cons_of_mem _ hx)
        have h2 := h y (List.mem_cons_self ..)
        simp only [List.map_cons, List.flatMap_cons, List.length_append, List.length_cons, Nat.succ_mul]
        omega
    have h1 := key l fun x hx => h x (List.mem_cons_of_mem _ hx)
    have h2 := h x (List.mem_cons_self ..)
    simp only [List.map_cons, joinS, List.length_append, List.length_cons, Nat.succ_mul]
    omega
theorem atomS_len {a : Atm} (h : AtmOk a) : (atomS a).length ≤ 700 := by
  unfold atomS
  have h1 := join_len termS comS 100 a.ts fun t ht => termS_len (h.2.2 t ht)
  have h2 := h.1
  have h3 := h.2.1
  have hc : comS.length = 2 := rfl
  rw [hc] at h1
  have h4 : a.ts.length * (2 + 100) ≤ 612 := by omega
  simp only [List.length_append, List.length_cons, List.length_nil]
  split <;> simp <;> omega


/-! ### Pr3 -/

/-- The text of the atom up to the k-th term. -/
def atomP (l : Str) (a : Atm) (k : Nat) : Str := (l ++ (if a.neg = true then [110, 111, 116, 32] else [])) ++ (a.rel ++ [40]) ++ joinS comS ((a.ts.take k).map termS)
theorem atomP_len {l : Str} {a : Atm} (h : AtmOk a) (k : Nat) : (atomP l a k).length ≤ l.length + 700 := by
  unfold atomP
  have h1 := join_len termS comS 100 (a.ts.take k) fun t ht => termS_len (h.2.2 t (List.mem_of_mem_take ht))
  have h2 := h.1
  have h3 := h.2.1
  have hc : comS.length = 2 := rfl
  rw [hc] at h1
  have h4 : (a.ts.take k).length ≤ 6 := by simp only [List.length_take]; omega
  have h5 : (a.ts.take k).length * (2 + 100) ≤ 612 := by omega
  simp only [List.length_append, List.length_cons, List.length_nil]
  split <;> simp only [List.length_cons, List.length_nil] <;> omega

set_option maxRecDepth 100000 in
set_option maxHeartbeats 8000000 in
theorem p_atom (B b : Nat) (l : Str) (a : Atm) (T : Option Addr) (c : Nat) (w0 w : World) (hB : w0.heap.size = B) (h0 : Below B w0 w) (hT : TrmsAt w0 T a.ts) (htab : Tab w0) (hok : AtmOk a) (hp : Prn B b l w) (hl : l.length ≤ 100000) {x : Str} (hx : l ++ atomS a = x) :
    Calls Tryz.prog 76 #[.pointer (some ⟨b, 0, none⟩), .agg #[.bool a.neg, .string ⟨a.rel.toArray⟩, .slice T a.ts.length c]] w fun e w' => e = .returned (.tuple #[]) ∧ (Prn B b x w' ∧ Below B w w' ∧ Kp b w w') := by
  subst hB
  have HTab := fun W h => hid (htab.below (w1 := W) h)
  have HT := hid hT
  have HOK := hid hok
  have hm : a.ts.length ≤ 6 := hok.2.1
  have hr := hok.1
  have hlen := atomP_len (l := l) hok
  have Hlen := hid hlen
  have HX : Hid (atomP l a a.ts.length ++ [41] = x) := hid (by rw [← hx]; unfold atomP atomS; rw [List.take_length]; simp)
  have Hend := hid (fun k (hk : k < a.ts.length) => join_succ termS comS hk)
  have hbs := hp.lt
  have hB0 : w0.heap.size ≤ w.heap.size := h0.size
  obtain ⟨R, hR, hRd⟩ : ∃ Y : ByteArray, (⟨a.rel.toArray⟩ : ByteArray) = Y ∧ Y.data.toList = a.rel := ⟨_, rfl, rfl⟩
  have hRb : R.size ≤ 16 := by have : R.size = a.rel.length := by (rw [← hRd]; simp)
                               omega
  rw [hR]
  have Hst : Hid (∀ k, atomP l a k = (l ++ (if a.neg = true then [110, 111, 116, 32] else [])) ++ (R.data.toList ++ [40]) ++ joinS comS ((a.ts.take k).map termS)) := hid fun k => by unfold atomP; rw [hRd]
  obtain ⟨ng, eng⟩ : ∃ ng, a.neg = ng := ⟨_, rfl⟩
  rw [eng] at Hst ⊢
  have hbox : (w.alloc (.cells #[.bool ng, .string R, .slice T a.ts.length c] 111)).heap[w.heap.size]? = some (.cells #[.bool ng, .string R, .slice T a.ts.length c] 111) := heap_alloc_new w _
  have hp1 := hp.below (below_one w (.cells #[.bool ng, .string R, .slice T a.ts.length c] 111))
  have hk1 : Kp b w (w.alloc (.cells #[.bool ng, .string R, .slice T a.ts.length c] 111)) := (Lib.OthersKept.refl _ _ w).alloc _
  have hb1 : Below w0.heap.size w (w.alloc (.cells #[.bool ng, .string R, .slice T a.ts.length c] 111)) := (below_one w _).mono hB0
  have hne : w.heap.size ≠ b := by omega
  obtain ⟨l1, el1⟩ : ∃ l1, l ++ (if ng = true then [110, 111, 116, 32] else []) = l1 := ⟨_, rfl⟩
  have hl1 : l1.length ≤ l.length + 4 := by rw [← el1]; cases ng <;> simp
  rw [el1] at Hst
  have EL : Hid (l ++ (if ng = true then [110, 111, 116, 32] else []) = l1) := hid el1
  clear hx hR hRd hok hT htab hp hlen eng el1
  have HP1 := hid hp1
  have HK1 := hid hk1
  have HBl1 := hid hb1
  have HBox := hid hbox
  have HZ0 := hid h0
  clear hp1 hk1 hb1 hbox h0
  have hz1 : w.heap.size + 1 ≤ (w.alloc (.cells #[.bool ng, .string R, .slice T a.ts.length c] 111)).heap.size := by simp
  have d0 := coh HBox.out (o := 0) rfl
  have d1 := coh HBox.out (o := 1) rfl
  have WS1 : ¬ 9223372036854775807 < R.size + 1 := by omega
  have WS2 : ¬ 9223372036854775807 < R.size + (ByteArray.mk #[40]).size := by show ¬ 9223372036854775807 < R.size + 1; omega
  cases ng
  · go_enter Tryz.func76, Tryz.ntmps76
    go_wp2_with fail
    have HP := hid (show Prn w0.heap.size b l1 _ by rw [← EL.out]; simpa using HP1.out)
    clear HP1 EL d0
    generalize (w.alloc (.cells #[.bool false, .string R, .slice T a.ts.length c] 111)) = wz at *
    go_wp2
    go_still_tail 6, (by kernel_rfl)
    change wpList _ _ _ _ _ wz.drew
    have HPd := hid (show Prn w0.heap.size b l1 wz.drew from HP.out)
    have HBd := hid (show Below w0.heap.size w wz.drew from HBl1.out.drew)
    have HKd := hid (show Kp b w wz.drew from HK1.out.drew)
    have HBoxd := hid (show wz.drew.heap[w.heap.size]? = some (.cells #[.bool false, .string R, .slice T a.ts.length c] 111) from HBox.out)
    have hszd : w.heap.size + 1 ≤ wz.drew.heap.size := hz1
    clear HP HBl1 HK1 HBox hz1 d1
    generalize wz.drew = wy at *
    go_wp2_with fail
    refine (p_put _ b l1 _ _ HPd.out (by omega) (by rw [ByteArray.size_append]; show _ + (R.size + 1) ≤ _; omega) (y := atomP l a 0) (by rw [Hst.out]; simp [ByteArray.data_append, joinS])).mono ?_
    rintro e w1 ⟨rfl, hP2, hB2, hK2⟩
    have HP2 := hid hP2
    have HB2 := hid (HBd.out.trans hB2)
    have HK2 := hid (HKd.out.trans hK2)
    have HBox2 := hid (hK2.block HBoxd.out hne (by decide))
    have hsz2 := Nat.le_trans hszd hB2.size
    clear HPd HBd HKd HBoxd hszd hP2 hB2 hK2 WS1 WS2
    have d2 := coh HBox2.out (o := 2) rfl
    go_wp2
    clear d2
    go_loopw [22] (fun i wr => ∃ k : Nat, k ≤ a.ts.length ∧ i = .int .i64 k ∧ Hid (Prn w0.heap.size b (atomP l a k) wr) ∧ Hid (Below w0.heap.size w wr) ∧ Hid (Kp b w wr) ∧ Hid (wr.heap[w.heap.size]? = some (.cells #[.bool false, .string R, .slice T a.ts.length c] 111)) ∧ w.heap.size + 1 ≤ wr.heap.size) (fun i _ => a.ts.length - (intOf i).toNat)
    case atStart => exact ⟨0, by omega, rfl, HP2, HB2, HK2, HBox2, hsz2⟩
    case round =>
      obtain ⟨k, hk, rfl, HPr, HBr, HKr, HBoxr, hszr⟩ := hrel
      clear HP2 HB2 HK2 HBox2 hsz2
      have hcl := Hlen.out k
      by_cases hlt : k < a.ts.length
      · obtain ⟨bt, o, rfl, hc⟩ := HT.out (by omega)
        obtain ⟨c0, c1, c2, c3⟩ := hc k hlt
        have hbw := HZ0.out.trans HBr.out
        replace c0 := cell_keep hbw c0
        replace c1 := cell_keep hbw c1
        replace c2 := cell_keep hbw c2
        replace c3 := cell_keep hbw c3
        have hok := HOK.out.2.2 _ (List.getElem_mem hlt)
        obtain ⟨Z, hZ, hZd⟩ : ∃ Y : ByteArray, (⟨a.ts[k].v.toArray⟩ : ByteArray) = Y ∧ Y.data.toList = a.ts[k].v := ⟨_, rfl, rfl⟩
        have hZb : Z.size ≤ 16 := by
          have h1 : Z.size = a.ts[k].v.length := by rw [← hZd]; simp
          have := hok.1
          omega
        rw [hZ] at c0
        obtain ⟨⟨z3, z4, z5⟩, ez⟩ : ∃ z, a.ts[k].c = z := ⟨_, rfl⟩
        rw [ez] at c1 c2 c3
        simp only at c1 c2 c3
        have EZ := hid ez
        clear ez
        have HZl : Hid (Z.toList = a.ts[k].v) := hid (by rw [Lib.toList_data]; exact hZd)
        have HZd := hid hZd
        have HJ := hid (Hend.out k hlt)
        have HP3 := hid (HPr.out.below (below_one wr (.cells #[.string Z, .int .i64 z3, .int .i64 z4, .string z5] 146)))
        have HB3 := hid (HBr.out.trans ((below_one wr (.cells #[.string Z, .int .i64 z3, .int .i64 z4, .string z5] 146)).mono (by omega)))
        have HK3 := hid (Kp.below HKr.out (below_one wr (.cells #[.string Z, .int .i64 z3, .int .i64 z4, .string z5] 146)))
        have HBox3 := hid (((below_one wr (.cells #[.string Z, .int .i64 z3, .int .i64 z4, .string z5] 146)).block _ (by omega)).trans HBoxr.out)
        have HTB := hid (heap_alloc_new wr (.cells #[.string Z, .int .i64 z3, .int .i64 z4, .string z5] 146))
        have hsz3 : w.heap.size + 1 ≤ (wr.alloc (.cells #[.string Z, .int .i64 z3, .int .i64 z4, .string z5] 146)).heap.size := by simp; omega
        have HTB2 : Hid (wr.heap.size ≠ b) := hid (by have := HPr.out.lt; omega)
        obtain ⟨wo, rfl⟩ : ∃ wo : World, wo = wr := ⟨_, rfl⟩
        clear hbw hZ hZd hc hok HPr HBr HKr HBoxr hszr
        by_cases hv : a.ts[k].v = []
        · by_cases hk0 : k = 0
          · have HNext := hid (show atomP l a k ++ termS a.ts[k] = atomP l a (k + 1) by rw [Hst.out, Hst.out, HJ.out, if_pos hk0, List.append_assoc])
            obtain ⟨cur, ecur⟩ : ∃ cur, atomP l a k = cur := ⟨_, rfl⟩
            have hk1 : k ≤ 0 := by omega
            rw [ecur] at HNext hcl
            have HPx := hid (show Prn w0.heap.size b cur _ by rw [← ecur]; exact HP3.out)
            have HBx := HB3
            have HKx := HK3
            have HBoxx := HBox3
            have hszx := hsz3
            clear HJ hk0 HP3 HB3 HK3 HBox3 hsz3 ecur

            have e0 := coh HTB.out (o := 0) rfl
            have e1 := coh HTB.out (o := 1) rfl
            have e2 := coh HTB.out (o := 2) rfl
            have e3 := coh HTB.out (o := 3) rfl

            have hok : (a.ts[k].c.valid = true ∧ I64 a.ts[k].c.n) := (HOK.out.2.2 _ (List.getElem_mem hlt)).2 hv
            have hze : Z.toList.isEmpty = true := by rw [HZl.out, hv]; rfl
            have htx : termS a.ts[k] = textL a.ts[k].c := by unfold termS; rw [if_pos hv]
            rw [EZ.out] at hok htx
            obtain ⟨hs24, htl⟩ := textL_small hok.1 hok.2
            have hvt := fun W (hW : Tab W) => hid (value_text ⟨z3, z4, z5⟩ W hok.2 (Nat.le_trans hs24 (by decide)) hW rfl)
            obtain ⟨tx, etx⟩ : ∃ tx, textL ⟨z3, z4, z5⟩ = tx := ⟨_, rfl⟩
            rw [etx] at hvt htx htl
            have hN := HNext.out
            rw [htx] at hN
            have HN := hid hN
            clear hN HNext htx hv hok etx hs24 EZ

            go_wp2
            have HTBx := HTB
            generalize (wo.alloc (.cells #[.string Z, .int .i64 z3, .int .i64 z4, .string z5] 146)) = wx at *
            clear HTB

            go_region_held3 (fun w' => w'.cell? ⟨wo.heap.size, 1, none⟩ = some (.int .i64 z3) ∧ w'.cell? ⟨wo.heap.size, 2, none⟩ = some (.int .i64 z4) ∧ w'.cell? ⟨wo.heap.size, 3, none⟩ = some (.string z5)) (first | exact ⟨e1, e2, e3⟩ | exact ⟨n1, n2, n3⟩ | exact ⟨m1, m2, m3⟩ | assumption | fail)
              (first
                | (go_at_call 78; refine (hvt _ (HTab _ (HZ0.out.trans HBx.out.drew)).out).out.mono ?_; rintro e w3 ⟨rfl, b3⟩; have n1 := cell_keep b3 e1; have n2 := cell_keep b3 e2; have n3 := cell_keep b3 e3; have HBT : Hid (Below wx.heap.size wx w3) := hid ((Below.refl _ wx).drew.trans b3); have HP3 := hid (HPx.out.below HBT.out); have HB3 := hid (HBx.out.trans (HBT.out.mono (by omega))); have HK3 := hid (Kp.below HKx.out HBT.out); have HBox3 := hid ((HBT.out.block _ (by omega)).trans HBoxx.out); have HTB3 := hid ((HBT.out.block _ (Array.getElem?_eq_some_iff.1 HTBx.out).1).trans HTBx.out); have hsz3 := Nat.le_trans hszx HBT.out.size; clear b3)
                | (go_at_call 18; refine (p_put _ b cur _ _ HP3.out (by omega) (by show _ + tx.length ≤ _; omega) (y := atomP l a (k + 1)) HN.out).mono ?_; rintro e w4 ⟨rfl, hP4, hB4, hK4⟩; have hT4 := hK4.block HTB3.out HTB2.out (by decide); have m1 := coh hT4 (o := 1) rfl; have m2 := coh hT4 (o := 2) rfl; have m3 := coh hT4 (o := 3) rfl; have HP4 := hid hP4; have HB4 := hid (HB3.out.trans hB4); have HK4 := hid (HK3.out.trans hK4); have HBox4 := hid (hK4.block HBox3.out hne (by decide)); have hsz4 := Nat.le_trans hsz3 hB4.size; clear hP4 hB4 hK4 hT4)
                | fail)
            all_goals
              clear e0 e1 e2 e3 n1 n2 n3 m1 m2 m3 hvt HN HP3 HB3 HK3 HBox3 HTB3 HTB2 HTBx HPx HBx HKx HBoxx HBT
              go_wp2
              go_roundw
              case rel => exact ⟨k + 1, by omega, by go_num, HP4, HB4, HK4, HBox4, hsz4⟩
              case measure => simp [intOf]; omega
          · have hk1 : 0 < k := by omega
            have HNext := hid (show (atomP l a k ++ comS) ++ termS a.ts[k] = atomP l a (k + 1) by rw [Hst.out, Hst.out, HJ.out, if_neg hk0]; simp)
            clear HJ hk0

            have e0 := coh HTB.out (o := 0) rfl
            have e1 := coh HTB.out (o := 1) rfl
            have e2 := coh HTB.out (o := 2) rfl
            have e3 := coh HTB.out (o := 3) rfl

            go_wp2_with fail
            refine (p_put _ b _ ⟨#[44, 32]⟩ _ HP3.out (by omega) (by show (atomP l a k).length + 2 ≤ _; omega) (y := atomP l a k ++ comS) rfl).mono ?_
            rintro e wx ⟨rfl, hPx, hBx, hKx⟩
            have HPx := hid hPx
            have HBx := hid (HB3.out.trans hBx)
            have HKx := hid (HK3.out.trans hKx)
            have HBoxx := hid (hKx.block HBox3.out hne (by decide))
            have hTBx := hKx.block HTB.out HTB2.out (by decide)
            have HTBx := hid hTBx
            have hszx : w.heap.size + 1 ≤ wx.heap.size := Nat.le_trans hsz3 hBx.size
            clear HP3 HB3 HK3 HBox3 hPx hBx hKx e0 e1 e2 e3 HTB hsz3
            have e0 := coh hTBx (o := 0) rfl
            have e1 := coh hTBx (o := 1) rfl
            have e2 := coh hTBx (o := 2) rfl
            have e3 := coh hTBx (o := 3) rfl
            clear hTBx

            have hcl2 : (atomP l a k ++ comS).length ≤ l.length + 702 := by rw [List.length_append]; show _ + 2 ≤ _; omega
            obtain ⟨cur, ecur⟩ : ∃ cur, atomP l a k ++ comS = cur := ⟨_, rfl⟩
            rw [ecur] at HNext HPx hcl2
            clear ecur hcl

            have hok : (a.ts[k].c.valid = true ∧ I64 a.ts[k].c.n) := (HOK.out.2.2 _ (List.getElem_mem hlt)).2 hv
            have hze : Z.toList.isEmpty = true := by rw [HZl.out, hv]; rfl
            have htx : termS a.ts[k] = textL a.ts[k].c := by unfold termS; rw [if_pos hv]
            rw [EZ.out] at hok htx
            obtain ⟨hs24, htl⟩ := textL_small hok.1 hok.2
            have hvt := fun W (hW : Tab W) => hid (value_text ⟨z3, z4, z5⟩ W hok.2 (Nat.le_trans hs24 (by decide)) hW rfl)
            obtain ⟨tx, etx⟩ : ∃ tx, textL ⟨z3, z4, z5⟩ = tx := ⟨_, rfl⟩
            rw [etx] at hvt htx htl
            have hN := HNext.out
            rw [htx] at hN
            have HN := hid hN
            clear hN HNext htx hv hok etx hs24 EZ
            go_wp2

            go_region_held3 (fun w' => w'.cell? ⟨wo.heap.size, 1, none⟩ = some (.int .i64 z3) ∧ w'.cell? ⟨wo.heap.size, 2, none⟩ = some (.int .i64 z4) ∧ w'.cell? ⟨wo.heap.size, 3, none⟩ = some (.string z5)) (first | exact ⟨e1, e2, e3⟩ | exact ⟨n1, n2, n3⟩ | exact ⟨m1, m2, m3⟩ | assumption | fail)
              (first
                | (go_at_call 78; refine (hvt _ (HTab _ (HZ0.out.trans HBx.out.drew)).out).out.mono ?_; rintro e w3 ⟨rfl, b3⟩; have n1 := cell_keep b3 e1; have n2 := cell_keep b3 e2; have n3 := cell_keep b3 e3; have HBT : Hid (Below wx.heap.size wx w3) := hid ((Below.refl _ wx).drew.trans b3); have HP3 := hid (HPx.out.below HBT.out); have HB3 := hid (HBx.out.trans (HBT.out.mono (by omega))); have HK3 := hid (Kp.below HKx.out HBT.out); have HBox3 := hid ((HBT.out.block _ (by omega)).trans HBoxx.out); have HTB3 := hid ((HBT.out.block _ (Array.getElem?_eq_some_iff.1 HTBx.out).1).trans HTBx.out); have hsz3 := Nat.le_trans hszx HBT.out.size; clear b3)
                | (go_at_call 18; refine (p_put _ b cur _ _ HP3.out (by omega) (by show _ + tx.length ≤ _; omega) (y := atomP l a (k + 1)) HN.out).mono ?_; rintro e w4 ⟨rfl, hP4, hB4, hK4⟩; have hT4 := hK4.block HTB3.out HTB2.out (by decide); have m1 := coh hT4 (o := 1) rfl; have m2 := coh hT4 (o := 2) rfl; have m3 := coh hT4 (o := 3) rfl; have HP4 := hid hP4; have HB4 := hid (HB3.out.trans hB4); have HK4 := hid (HK3.out.trans hK4); have HBox4 := hid (hK4.block HBox3.out hne (by decide)); have hsz4 := Nat.le_trans hsz3 hB4.size; clear hP4 hB4 hK4 hT4)
                | fail)
            all_goals
              clear e0 e1 e2 e3 n1 n2 n3 m1 m2 m3 hvt HN HP3 HB3 HK3 HBox3 HTB3 HTB2 HTBx HPx HBx HKx HBoxx HBT
              go_wp2
              go_roundw
              case rel => exact ⟨k + 1, by omega, by go_num, HP4, HB4, HK4, HBox4, hsz4⟩
              case measure => simp [intOf]; omega
        · by_cases hk0 : k = 0
          · have HNext := hid (show atomP l a k ++ termS a.ts[k] = atomP l a (k + 1) by rw [Hst.out, Hst.out, HJ.out, if_pos hk0, List.append_assoc])
            obtain ⟨cur, ecur⟩ : ∃ cur, atomP l a k = cur := ⟨_, rfl⟩
            have hk1 : k ≤ 0 := by omega
            rw [ecur] at HNext hcl
            have HPx := hid (show Prn w0.heap.size b cur _ by rw [← ecur]; exact HP3.out)
            have HBx := HB3
            have HKx := HK3
            have HBoxx := HBox3
            have hszx := hsz3
            clear HJ hk0 HP3 HB3 HK3 HBox3 hsz3 ecur

            have e0 := coh HTB.out (o := 0) rfl
            have e1 := coh HTB.out (o := 1) rfl
            have e2 := coh HTB.out (o := 2) rfl
            have e3 := coh HTB.out (o := 3) rfl

            have hze : Z.toList.isEmpty = false := by
              rw [HZl.out]
              cases h : a.ts[k].v with
              | nil => exact absurd h hv
              | cons _ _ => rfl
            have htx : termS a.ts[k] = a.ts[k].v := by unfold termS; rw [if_neg hv]
            have hN := HNext.out
            rw [htx] at hN
            have HN := hid hN
            clear hN
            clear HNext htx hv

            go_wp2
            have HTBx := HTB
            generalize (wo.alloc (.cells #[.string Z, .int .i64 z3, .int .i64 z4, .string z5] 146)) = wx at *
            clear HTB

            go_still_tail 5, (by kernel_rfl)
            change wpList _ _ _ _ _ wx.drew
            have HPd := hid (show Prn w0.heap.size b cur wx.drew from HPx.out)
            have HBd := hid (show Below w0.heap.size w wx.drew from HBx.out.drew)
            have HKd := hid (show Kp b w wx.drew from HKx.out.drew)
            have HBoxd := hid (show wx.drew.heap[w.heap.size]? = some _ from HBoxx.out)
            have hszd : w.heap.size + 1 ≤ wx.drew.heap.size := hszx
            clear HPx HBx HKx HBoxx hszx e0 e1 e2 e3
            generalize wx.drew = wy at *
            go_wp2_with fail
            refine (p_put _ b cur _ _ HPd.out (by omega) (by omega) (y := atomP l a (k + 1)) (by rw [HZd.out]; exact HN.out)).mono ?_
            rintro e w4 ⟨rfl, hP4, hB4, hK4⟩
            have HP4 := hid hP4
            have HB4 := hid (HBd.out.trans hB4)
            have HK4 := hid (HKd.out.trans hK4)
            have HBox4 := hid (hK4.block HBoxd.out hne (by decide))
            have hsz4 := Nat.le_trans hszd hB4.size
            clear HPd HBd HKd HBoxd hP4 hB4 hK4 HN
            go_wp2
            go_roundw
            case rel => exact ⟨k + 1, by omega, by go_num, HP4, HB4, HK4, HBox4, hsz4⟩
            case measure => simp [intOf]; omega
          · have hk1 : 0 < k := by omega
            have HNext := hid (show (atomP l a k ++ comS) ++ termS a.ts[k] = atomP l a (k + 1) by rw [Hst.out, Hst.out, HJ.out, if_neg hk0]; simp)
            clear HJ hk0

            have e0 := coh HTB.out (o := 0) rfl
            have e1 := coh HTB.out (o := 1) rfl
            have e2 := coh HTB.out (o := 2) rfl
            have e3 := coh HTB.out (o := 3) rfl

            go_wp2_with fail
            refine (p_put _ b _ ⟨#[44, 32]⟩ _ HP3.out (by omega) (by show (atomP l a k).length + 2 ≤ _; omega) (y := atomP l a k ++ comS) rfl).mono ?_
            rintro e wx ⟨rfl, hPx, hBx, hKx⟩
            have HPx := hid hPx
            have HBx := hid (HB3.out.trans hBx)
            have HKx := hid (HK3.out.trans hKx)
            have HBoxx := hid (hKx.block HBox3.out hne (by decide))
            have hTBx := hKx.block HTB.out HTB2.out (by decide)
            have HTBx := hid hTBx
            have hszx : w.heap.size + 1 ≤ wx.heap.size := Nat.le_trans hsz3 hBx.size
            clear HP3 HB3 HK3 HBox3 hPx hBx hKx e0 e1 e2 e3 HTB hsz3
            have e0 := coh hTBx (o := 0) rfl
            have e1 := coh hTBx (o := 1) rfl
            have e2 := coh hTBx (o := 2) rfl
            have e3 := coh hTBx (o := 3) rfl
            clear hTBx

            have hcl2 : (atomP l a k ++ comS).length ≤ l.length + 702 := by rw [List.length_append]; show _ + 2 ≤ _; omega
            obtain ⟨cur, ecur⟩ : ∃ cur, atomP l a k ++ comS = cur := ⟨_, rfl⟩
            rw [ecur] at HNext HPx hcl2
            clear ecur hcl

            have hze : Z.toList.isEmpty = false := by
              rw [HZl.out]
              cases h : a.ts[k].v with
              | nil => exact absurd h hv
              | cons _ _ => rfl
            have htx : termS a.ts[k] = a.ts[k].v := by unfold termS; rw [if_neg hv]
            have hN := HNext.out
            rw [htx] at hN
            have HN := hid hN
            clear hN
            clear HNext htx hv
            go_wp2

            go_still_tail 5, (by kernel_rfl)
            change wpList _ _ _ _ _ wx.drew
            have HPd := hid (show Prn w0.heap.size b cur wx.drew from HPx.out)
            have HBd := hid (show Below w0.heap.size w wx.drew from HBx.out.drew)
            have HKd := hid (show Kp b w wx.drew from HKx.out.drew)
            have HBoxd := hid (show wx.drew.heap[w.heap.size]? = some _ from HBoxx.out)
            have hszd : w.heap.size + 1 ≤ wx.drew.heap.size := hszx
            clear HPx HBx HKx HBoxx hszx e0 e1 e2 e3
            generalize wx.drew = wy at *
            go_wp2_with fail
            refine (p_put _ b cur _ _ HPd.out (by omega) (by omega) (y := atomP l a (k + 1)) (by rw [HZd.out]; exact HN.out)).mono ?_
            rintro e w4 ⟨rfl, hP4, hB4, hK4⟩
            have HP4 := hid hP4
            have HB4 := hid (HBd.out.trans hB4)
            have HK4 := hid (HKd.out.trans hK4)
            have HBox4 := hid (hK4.block HBoxd.out hne (by decide))
            have hsz4 := Nat.le_trans hszd hB4.size
            clear HPd HBd HKd HBoxd hP4 hB4 hK4 HN
            go_wp2
            go_roundw
            case rel => exact ⟨k + 1, by omega, by go_num, HP4, HB4, HK4, HBox4, hsz4⟩
            case measure => simp [intOf]; omega
      · have hend : k = a.ts.length := by omega
        subst hend
        have HPn := hid (show Prn w0.heap.size b (atomP l a a.ts.length) wr from HPr.out)
        go_wp2_with fail
        refine (p_put _ b _ ⟨#[41]⟩ _ HPr.out (by omega) (by show (atomP l a a.ts.length).length + 1 ≤ _; omega) (y := x) HX.out).mono ?_
        rintro e w4 ⟨rfl, hP4, hB4, hK4⟩
        have hbb := HBr.out.trans hB4
        have hkk := HKr.out.trans hK4
        clear HBr HKr hB4 hK4 HPr HPn HBoxr
        go_wp2
        go_end0
        exact ⟨rfl, hP4, hbb, hkk⟩
  · go_enter Tryz.func76, Tryz.ntmps76
    go_wp2_with fail
    refine (p_put _ b l ⟨#[110, 111, 116, 32]⟩ _ HP1.out (by omega) (by show l.length + 4 ≤ _; omega) (y := l1) EL.out).mono ?_
    rintro e wz ⟨rfl, hP, hB2, hK2⟩
    have HP := hid hP
    replace HBox := hid (hK2.block HBox.out hne (by decide))
    replace HK1 := hid (HK1.out.trans hK2)
    replace HBl1 := hid (HBl1.out.trans hB2)
    replace hz1 := Nat.le_trans hz1 hB2.size
    clear HP1 EL d0 d1 hP hB2 hK2
    have d1 := coh HBox.out (o := 1) rfl
    go_wp2
    go_still_tail 6, (by kernel_rfl)
    change wpList _ _ _ _ _ wz.drew
    have HPd := hid (show Prn w0.heap.size b l1 wz.drew from HP.out)
    have HBd := hid (show Below w0.heap.size w wz.drew from HBl1.out.drew)
    have HKd := hid (show Kp b w wz.drew from HK1.out.drew)
    have HBoxd := hid (show wz.drew.heap[w.heap.size]? = some (.cells #[.bool true, .string R, .slice T a.ts.length c] 111) from HBox.out)
    have hszd : w.heap.size + 1 ≤ wz.drew.heap.size := hz1
    clear HP HBl1 HK1 HBox hz1 d1
    generalize wz.drew = wy at *
    go_wp2_with fail
    refine (p_put _ b l1 _ _ HPd.out (by omega) (by rw [ByteArray.size_append]; show _ + (R.size + 1) ≤ _; omega) (y := atomP l a 0) (by rw [Hst.out]; simp [ByteArray.data_append, joinS])).mono ?_
    rintro e w1 ⟨rfl, hP2, hB2, hK2⟩
    have HP2 := hid hP2
    have HB2 := hid (HBd.out.trans hB2)
    have HK2 := hid (HKd.out.trans hK2)
    have HBox2 := hid (hK2.block HBoxd.out hne (by decide))
    have hsz2 := Nat.le_trans hszd hB2.size
    clear HPd HBd HKd HBoxd hszd hP2 hB2 hK2 WS1 WS2
    have d2 := coh HBox2.out (o := 2) rfl
    go_wp2
    clear d2
    go_loopw [22] (fun i wr => ∃ k : Nat, k ≤ a.ts.length ∧ i = .int .i64 k ∧ Hid (Prn w0.heap.size b (atomP l a k) wr) ∧ Hid (Below w0.heap.size w wr) ∧ Hid (Kp b w wr) ∧ Hid (wr.heap[w.heap.size]? = some (.cells #[.bool true, .string R, .slice T a.ts.length c] 111)) ∧ w.heap.size + 1 ≤ wr.heap.size) (fun i _ => a.ts.length - (intOf i).toNat)
    case atStart => exact ⟨0, by omega, rfl, HP2, HB2, HK2, HBox2, hsz2⟩
    case round =>
      obtain ⟨k, hk, rfl, HPr, HBr, HKr, HBoxr, hszr⟩ := hrel
      clear HP2 HB2 HK2 HBox2 hsz2
      have hcl := Hlen.out k
      by_cases hlt : k < a.ts.length
      · obtain ⟨bt, o, rfl, hc⟩ := HT.out (by omega)
        obtain ⟨c0, c1, c2, c3⟩ := hc k hlt
        have hbw := HZ0.out.trans HBr.out
        replace c0 := cell_keep hbw c0
        replace c1 := cell_keep hbw c1
        replace c2 := cell_keep hbw c2
        replace c3 := cell_keep hbw c3
        have hok := HOK.out.2.2 _ (List.getElem_mem hlt)
        obtain ⟨Z, hZ, hZd⟩ : ∃ Y : ByteArray, (⟨a.ts[k].v.toArray⟩ : ByteArray) = Y ∧ Y.data.toList = a.ts[k].v := ⟨_, rfl, rfl⟩
        have hZb : Z.size ≤ 16 := by
          have h1 : Z.size = a.ts[k].v.length := by rw [← hZd]; simp
          have := hok.1
          omega
        rw [hZ] at c0
        obtain ⟨⟨z3, z4, z5⟩, ez⟩ : ∃ z, a.ts[k].c = z := ⟨_, rfl⟩
        rw [ez] at c1 c2 c3
        simp only at c1 c2 c3
        have EZ := hid ez
        clear ez
        have HZl : Hid (Z.toList = a.ts[k].v) := hid (by rw [Lib.toList_data]; exact hZd)
        have HZd := hid hZd
        have HJ := hid (Hend.out k hlt)
        have HP3 := hid (HPr.out.below (below_one wr (.cells #[.string Z, .int .i64 z3, .int .i64 z4, .string z5] 146)))
        have HB3 := hid (HBr.out.trans ((below_one wr (.cells #[.string Z, .int .i64 z3, .int .i64 z4, .string z5] 146)).mono (by omega)))
        have HK3 := hid (Kp.below HKr.out (below_one wr (.cells #[.string Z, .int .i64 z3, .int .i64 z4, .string z5] 146)))
        have HBox3 := hid (((below_one wr (.cells #[.string Z, .int .i64 z3, .int .i64 z4, .string z5] 146)).block _ (by omega)).trans HBoxr.out)
        have HTB := hid (heap_alloc_new wr (.cells #[.string Z, .int .i64 z3, .int .i64 z4, .string z5] 146))
        have hsz3 : w.heap.size + 1 ≤ (wr.alloc (.cells #[.string Z, .int .i64 z3, .int .i64 z4, .string z5] 146)).heap.size := by simp; omega
        have HTB2 : Hid (wr.heap.size ≠ b) := hid (by have := HPr.out.lt; omega)
        obtain ⟨wo, rfl⟩ : ∃ wo : World, wo = wr := ⟨_, rfl⟩
        clear hbw hZ hZd hc hok HPr HBr HKr HBoxr hszr
        by_cases hv : a.ts[k].v = []
        · by_cases hk0 : k = 0
          · have HNext := hid (show atomP l a k ++ termS a.ts[k] = atomP l a (k + 1) by rw [Hst.out, Hst.out, HJ.out, if_pos hk0, List.append_assoc])
            obtain ⟨cur, ecur⟩ : ∃ cur, atomP l a k = cur := ⟨_, rfl⟩
            have hk1 : k ≤ 0 := by omega
            rw [ecur] at HNext hcl
            have HPx := hid (show Prn w0.heap.size b cur _ by rw [← ecur]; exact HP3.out)
            have HBx := HB3
            have HKx := HK3
            have HBoxx := HBox3
            have hszx := hsz3
            clear HJ hk0 HP3 HB3 HK3 HBox3 hsz3 ecur

            have e0 := coh HTB.out (o := 0) rfl
            have e1 := coh HTB.out (o := 1) rfl
            have e2 := coh HTB.out (o := 2) rfl
            have e3 := coh HTB.out (o := 3) rfl

            have hok : (a.ts[k].c.valid = true ∧ I64 a.ts[k].c.n) := (HOK.out.2.2 _ (List.getElem_mem hlt)).2 hv
            have hze : Z.toList.isEmpty = true := by rw [HZl.out, hv]; rfl
            have htx : termS a.ts[k] = textL a.ts[k].c := by unfold termS; rw [if_pos hv]
            rw [EZ.out] at hok htx
            obtain ⟨hs24, htl⟩ := textL_small hok.1 hok.2
            have hvt := fun W (hW : Tab W) => hid (value_text ⟨z3, z4, z5⟩ W hok.2 (Nat.le_trans hs24 (by decide)) hW rfl)
            obtain ⟨tx, etx⟩ : ∃ tx, textL ⟨z3, z4, z5⟩ = tx := ⟨_, rfl⟩
            rw [etx] at hvt htx htl
            have hN := HNext.out
            rw [htx] at hN
            have HN := hid hN
            clear hN HNext htx hv hok etx hs24 EZ

            go_wp2
            have HTBx := HTB
            generalize (wo.alloc (.cells #[.string Z, .int .i64 z3, .int .i64 z4, .string z5] 146)) = wx at *
            clear HTB

            go_region_held3 (fun w' => w'.cell? ⟨wo.heap.size, 1, none⟩ = some (.int .i64 z3) ∧ w'.cell? ⟨wo.heap.size, 2, none⟩ = some (.int .i64 z4) ∧ w'.cell? ⟨wo.heap.size, 3, none⟩ = some (.string z5)) (first | exact ⟨e1, e2, e3⟩ | exact ⟨n1, n2, n3⟩ | exact ⟨m1, m2, m3⟩ | assumption | fail)
              (first
                | (go_at_call 78; refine (hvt _ (HTab _ (HZ0.out.trans HBx.out.drew)).out).out.mono ?_; rintro e w3 ⟨rfl, b3⟩; have n1 := cell_keep b3 e1; have n2 := cell_keep b3 e2; have n3 := cell_keep b3 e3; have HBT : Hid (Below wx.heap.size wx w3) := hid ((Below.refl _ wx).drew.trans b3); have HP3 := hid (HPx.out.below HBT.out); have HB3 := hid (HBx.out.trans (HBT.out.mono (by omega))); have HK3 := hid (Kp.below HKx.out HBT.out); have HBox3 := hid ((HBT.out.block _ (by omega)).trans HBoxx.out); have HTB3 := hid ((HBT.out.block _ (Array.getElem?_eq_some_iff.1 HTBx.out).1).trans HTBx.out); have hsz3 := Nat.le_trans hszx HBT.out.size; clear b3)
                | (go_at_call 18; refine (p_put _ b cur _ _ HP3.out (by omega) (by show _ + tx.length ≤ _; omega) (y := atomP l a (k + 1)) HN.out).mono ?_; rintro e w4 ⟨rfl, hP4, hB4, hK4⟩; have hT4 := hK4.block HTB3.out HTB2.out (by decide); have m1 := coh hT4 (o := 1) rfl; have m2 := coh hT4 (o := 2) rfl; have m3 := coh hT4 (o := 3) rfl; have HP4 := hid hP4; have HB4 := hid (HB3.out.trans hB4); have HK4 := hid (HK3.out.trans hK4); have HBox4 := hid (hK4.block HBox3.out hne (by decide)); have hsz4 := Nat.le_trans hsz3 hB4.size; clear hP4 hB4 hK4 hT4)
                | fail)
            all_goals
              clear e0 e1 e2 e3 n1 n2 n3 m1 m2 m3 hvt HN HP3 HB3 HK3 HBox3 HTB3 HTB2 HTBx HPx HBx HKx HBoxx HBT
              go_wp2
              go_roundw
              case rel => exact ⟨k + 1, by omega, by go_num, HP4, HB4, HK4, HBox4, hsz4⟩
              case measure => simp [intOf]; omega
          · have hk1 : 0 < k := by omega
            have HNext := hid (show (atomP l a k ++ comS) ++ termS a.ts[k] = atomP l a (k + 1) by rw [Hst.out, Hst.out, HJ.out, if_neg hk0]; simp)
            clear HJ hk0

            have e0 := coh HTB.out (o := 0) rfl
            have e1 := coh HTB.out (o := 1) rfl
            have e2 := coh HTB.out (o := 2) rfl
            have e3 := coh HTB.out (o := 3) rfl

            go_wp2_with fail
            refine (p_put _ b _ ⟨#[44, 32]⟩ _ HP3.out (by omega) (by show (atomP l a k).length + 2 ≤ _; omega) (y := atomP l a k ++ comS) rfl).mono ?_
            rintro e wx ⟨rfl, hPx, hBx, hKx⟩
            have HPx := hid hPx
            have HBx := hid (HB3.out.trans hBx)
            have HKx := hid (HK3.out.trans hKx)
            have HBoxx := hid (hKx.block HBox3.out hne (by decide))
            have hTBx := hKx.block HTB.out HTB2.out (by decide)
            have HTBx := hid hTBx
            have hszx : w.heap.size + 1 ≤ wx.heap.size := Nat.le_trans hsz3 hBx.size
            clear HP3 HB3 HK3 HBox3 hPx hBx hKx e0 e1 e2 e3 HTB hsz3
            have e0 := coh hTBx (o := 0) rfl
            have e1 := coh hTBx (o := 1) rfl
            have e2 := coh hTBx (o := 2) rfl
            have e3 := coh hTBx (o := 3) rfl
            clear hTBx

            have hcl2 : (atomP l a k ++ comS).length ≤ l.length + 702 := by rw [List.length_append]; show _ + 2 ≤ _; omega
            obtain ⟨cur, ecur⟩ : ∃ cur, atomP l a k ++ comS = cur := ⟨_, rfl⟩
            rw [ecur] at HNext HPx hcl2
            clear ecur hcl

            have hok : (a.ts[k].c.valid = true ∧ I64 a.ts[k].c.n) := (HOK.out.2.2 _ (List.getElem_mem hlt)).2 hv
            have hze : Z.toList.isEmpty = true := by rw [HZl.out, hv]; rfl
            have htx : termS a.ts[k] = textL a.ts[k].c := by unfold termS; rw [if_pos hv]
            rw [EZ.out] at hok htx
            obtain ⟨hs24, htl⟩ := textL_small hok.1 hok.2
            have hvt := fun W (hW : Tab W) => hid (value_text ⟨z3, z4, z5⟩ W hok.2 (Nat.le_trans hs24 (by decide)) hW rfl)
            obtain ⟨tx, etx⟩ : ∃ tx, textL ⟨z3, z4, z5⟩ = tx := ⟨_, rfl⟩
            rw [etx] at hvt htx htl
            have hN := HNext.out
            rw [htx] at hN
            have HN := hid hN
            clear hN HNext htx hv hok etx hs24 EZ
            go_wp2

            go_region_held3 (fun w' => w'.cell? ⟨wo.heap.size, 1, none⟩ = some (.int .i64 z3) ∧ w'.cell? ⟨wo.heap.size, 2, none⟩ = some (.int .i64 z4) ∧ w'.cell? ⟨wo.heap.size, 3, none⟩ = some (.string z5)) (first | exact ⟨e1, e2, e3⟩ | exact ⟨n1, n2, n3⟩ | exact ⟨m1, m2, m3⟩ | assumption | fail)
              (first
                | (go_at_call 78; refine (hvt _ (HTab _ (HZ0.out.trans HBx.out.drew)).out).out.mono ?_; rintro e w3 ⟨rfl, b3⟩; have n1 := cell_keep b3 e1; have n2 := cell_keep b3 e2; have n3 := cell_keep b3 e3; have HBT : Hid (Below wx.heap.size wx w3) := hid ((Below.refl _ wx).drew.trans b3); have HP3 := hid (HPx.out.below HBT.out); have HB3 := hid (HBx.out.trans (HBT.out.mono (by omega))); have HK3 := hid (Kp.below HKx.out HBT.out); have HBox3 := hid ((HBT.out.block _ (by omega)).trans HBoxx.out); have HTB3 := hid ((HBT.out.block _ (Array.getElem?_eq_some_iff.1 HTBx.out).1).trans HTBx.out); have hsz3 := Nat.le_trans hszx HBT.out.size; clear b3)
                | (go_at_call 18; refine (p_put _ b cur _ _ HP3.out (by omega) (by show _ + tx.length ≤ _; omega) (y := atomP l a (k + 1)) HN.out).mono ?_; rintro e w4 ⟨rfl, hP4, hB4, hK4⟩; have hT4 := hK4.block HTB3.out HTB2.out (by decide); have m1 := coh hT4 (o := 1) rfl; have m2 := coh hT4 (o := 2) rfl; have m3 := coh hT4 (o := 3) rfl; have HP4 := hid hP4; have HB4 := hid (HB3.out.trans hB4); have HK4 := hid (HK3.out.trans hK4); have HBox4 := hid (hK4.block HBox3.out hne (by decide)); have hsz4 := Nat.le_trans hsz3 hB4.size; clear hP4 hB4 hK4 hT4)
                | fail)
            all_goals
              clear e0 e1 e2 e3 n1 n2 n3 m1 m2 m3 hvt HN HP3 HB3 HK3 HBox3 HTB3 HTB2 HTBx HPx HBx HKx HBoxx HBT
              go_wp2
              go_roundw
              case rel => exact ⟨k + 1, by omega, by go_num, HP4, HB4, HK4, HBox4, hsz4⟩
              case measure => simp [intOf]; omega
        · by_cases hk0 : k = 0
          · have HNext := hid (show atomP l a k ++ termS a.ts[k] = atomP l a (k + 1) by rw [Hst.out, Hst.out, HJ.out, if_pos hk0, List.append_assoc])
            obtain ⟨cur, ecur⟩ : ∃ cur, atomP l a k = cur := ⟨_, rfl⟩
            have hk1 : k ≤ 0 := by omega
            rw [ecur] at HNext hcl
            have HPx := hid (show Prn w0.heap.size b cur _ by rw [← ecur]; exact HP3.out)
            have HBx := HB3
            have HKx := HK3
            have HBoxx := HBox3
            have hszx := hsz3
            clear HJ hk0 HP3 HB3 HK3 HBox3 hsz3 ecur

            have e0 := coh HTB.out (o := 0) rfl
            have e1 := coh HTB.out (o := 1) rfl
            have e2 := coh HTB.out (o := 2) rfl
            have e3 := coh HTB.out (o := 3) rfl

            have hze : Z.toList.isEmpty = false := by
              rw [HZl.out]
              cases h : a.ts[k].v with
              | nil => exact absurd h hv
              | cons _ _ => rfl
            have htx : termS a.ts[k] = a.ts[k].v := by unfold termS; rw [if_neg hv]
            have hN := HNext.out
            rw [htx] at hN
            have HN := hid hN
            clear hN
            clear HNext htx hv

            go_wp2
            have HTBx := HTB
            generalize (wo.alloc (.cells #[.string Z, .int .i64 z3, .int .i64 z4, .string z5] 146)) = wx at *
            clear HTB

            go_still_tail 5, (by kernel_rfl)
            change wpList _ _ _ _ _ wx.drew
            have HPd := hid (show Prn w0.heap.size b cur wx.drew from HPx.out)
            have HBd := hid (show Below w0.heap.size w wx.drew from HBx.out.drew)
            have HKd := hid (show Kp b w wx.drew from HKx.out.drew)
            have HBoxd := hid (show wx.drew.heap[w.heap.size]? = some _ from HBoxx.out)
            have hszd : w.heap.size + 1 ≤ wx.drew.heap.size := hszx
            clear HPx HBx HKx HBoxx hszx e0 e1 e2 e3
            generalize wx.drew = wy at *
            go_wp2_with fail
            refine (p_put _ b cur _ _ HPd.out (by omega) (by omega) (y := atomP l a (k + 1)) (by rw [HZd.out]; exact HN.out)).mono ?_
            rintro e w4 ⟨rfl, hP4, hB4, hK4⟩
            have HP4 := hid hP4
            have HB4 := hid (HBd.out.trans hB4)
            have HK4 := hid (HKd.out.trans hK4)
            have HBox4 := hid (hK4.block HBoxd.out hne (by decide))
            have hsz4 := Nat.le_trans hszd hB4.size
            clear HPd HBd HKd HBoxd hP4 hB4 hK4 HN
            go_wp2
            go_roundw
            case rel => exact ⟨k + 1, by omega, by go_num, HP4, HB4, HK4, HBox4, hsz4⟩
            case measure => simp [intOf]; omega
          · have hk1 : 0 < k := by omega
            have HNext := hid (show (atomP l a k ++ comS) ++ termS a.ts[k] = atomP l a (k + 1) by rw [Hst.out, Hst.out, HJ.out, if_neg hk0]; simp)
            clear HJ hk0

            have e0 := coh HTB.out (o := 0) rfl
            have e1 := coh HTB.out (o := 1) rfl
            have e2 := coh HTB.out (o := 2) rfl
            have e3 := coh HTB.out (o := 3) rfl

            go_wp2_with fail
            refine (p_put _ b _ ⟨#[44, 32]⟩ _ HP3.out (by omega) (by show (atomP l a k).length + 2 ≤ _; omega) (y := atomP l a k ++ comS) rfl).mono ?_
            rintro e wx ⟨rfl, hPx, hBx, hKx⟩
            have HPx := hid hPx
            have HBx := hid (HB3.out.trans hBx)
            have HKx := hid (HK3.out.trans hKx)
            have HBoxx := hid (hKx.block HBox3.out hne (by decide))
            have hTBx := hKx.block HTB.out HTB2.out (by decide)
            have HTBx := hid hTBx
            have hszx : w.heap.size + 1 ≤ wx.heap.size := Nat.le_trans hsz3 hBx.size
            clear HP3 HB3 HK3 HBox3 hPx hBx hKx e0 e1 e2 e3 HTB hsz3
            have e0 := coh hTBx (o := 0) rfl
            have e1 := coh hTBx (o := 1) rfl
            have e2 := coh hTBx (o := 2) rfl
            have e3 := coh hTBx (o := 3) rfl
            clear hTBx

            have hcl2 : (atomP l a k ++ comS).length ≤ l.length + 702 := by rw [List.length_append]; show _ + 2 ≤ _; omega
            obtain ⟨cur, ecur⟩ : ∃ cur, atomP l a k ++ comS = cur := ⟨_, rfl⟩
            rw [ecur] at HNext HPx hcl2
            clear ecur hcl

            have hze : Z.toList.isEmpty = false := by
              rw [HZl.out]
              cases h : a.ts[k].v with
              | nil => exact absurd h hv
              | cons _ _ => rfl
            have htx : termS a.ts[k] = a.ts[k].v := by unfold termS; rw [if_neg hv]
            have hN := HNext.out
            rw [htx] at hN
            have HN := hid hN
            clear hN
            clear HNext htx hv
            go_wp2

            go_still_tail 5, (by kernel_rfl)
            change wpList _ _ _ _ _ wx.drew
            have HPd := hid (show Prn w0.heap.size b cur wx.drew from HPx.out)
            have HBd := hid (show Below w0.heap.size w wx.drew from HBx.out.drew)
            have HKd := hid (show Kp b w wx.drew from HKx.out.drew)
            have HBoxd := hid (show wx.drew.heap[w.heap.size]? = some _ from HBoxx.out)
            have hszd : w.heap.size + 1 ≤ wx.drew.heap.size := hszx
            clear HPx HBx HKx HBoxx hszx e0 e1 e2 e3
            generalize wx.drew = wy at *
            go_wp2_with fail
            refine (p_put _ b cur _ _ HPd.out (by omega) (by omega) (y := atomP l a (k + 1)) (by rw [HZd.out]; exact HN.out)).mono ?_
            rintro e w4 ⟨rfl, hP4, hB4, hK4⟩
            have HP4 := hid hP4
            have HB4 := hid (HBd.out.trans hB4)
            have HK4 := hid (HKd.out.trans hK4)
            have HBox4 := hid (hK4.block HBoxd.out hne (by decide))
            have hsz4 := Nat.le_trans hszd hB4.size
            clear HPd HBd HKd HBoxd hP4 hB4 hK4 HN
            go_wp2
            go_roundw
            case rel => exact ⟨k + 1, by omega, by go_num, HP4, HB4, HK4, HBox4, hsz4⟩
            case measure => simp [intOf]; omega
      · have hend : k = a.ts.length := by omega
        subst hend
        have HPn := hid (show Prn w0.heap.size b (atomP l a a.ts.length) wr from HPr.out)
        go_wp2_with fail
        refine (p_put _ b _ ⟨#[41]⟩ _ HPr.out (by omega) (by show (atomP l a a.ts.length).length + 1 ≤ _; omega) (y := x) HX.out).mono ?_
        rintro e w4 ⟨rfl, hP4, hB4, hK4⟩
        have hbb := HBr.out.trans hB4
        have hkk := HKr.out.trans hK4
        clear HBr HKr hB4 hK4 HPr HPn HBoxr
        go_wp2
        go_end0
        exact ⟨rfl, hP4, hbb, hkk⟩

/-! ### Pr4 -/

def CndOk (c : Cnd) : Prop := c.v.length ≤ 16 ∧ c.c.valid = true ∧ I64 c.c.n
def RulOk (r : Rul) : Prop := r.atoms.length ≤ 8 ∧ (∀ a ∈ r.atoms, AtmOk a) ∧ r.conds.length ≤ 8 ∧ ∀ c ∈ r.conds, CndOk c
def ruleP (l : Str) (r : Rul) (k : Nat) : Str := l ++ joinS comS ((r.atoms.take k).map atomS)
def ruleC (l : Str) (r : Rul) (k : Nat) : Str := ruleP l r r.atoms.length ++ (r.conds.take k).flatMap condS
theorem opS_len (o : Int) : (opS o).length ≤ 2 := by
  unfold opS
  split
  · decide
  split
  · decide
  split
  · decide
  split
  · decide
  split <;> decide
theorem condS_len {c : Cnd} (h : CndOk c) : (condS c).length ≤ 122 := by
  unfold condS
  have h1 := h.1
  have h2 := opS_len c.op
  have h3 := (textL_small h.2.1 h.2.2).2
  have hc : comS.length = 2 := rfl
  simp only [List.length_append, List.length_cons, List.length_nil]
  omega
theorem ruleP_len {l : Str} {r : Rul} (h : RulOk r) (k : Nat) : (ruleP l r k).length ≤ l.length + 5616 := by
  unfold ruleP
  have h1 := join_len atomS comS 700 (r.atoms.take k) fun a ha => atomS_len (h.2.1 a (List.mem_of_mem_take ha))
  have h2 := h.1
  have hc : comS.length = 2 := rfl
  rw [hc] at h1
  have h4 : (r.atoms.take k).length ≤ 8 := by simp only [List.length_take]; omega
  have h5 : (r.atoms.take k).length * (2 + 700) ≤ 5616 := by omega
  rw [List.length_append]
  omega
theorem flat_len {α : Type} (f : α → Str) (m : Nat) : ∀ (l : List α), (∀ x ∈ l, (f x).length ≤ m) → (l.flatMap f).length ≤ l.length * m
  | [], _ => by simp
  | x :: l, h => by
    have h1 := flat_len f m l fun y hy => h y (List.mem_cons_of_mem _ hy)
    have h2 := h x (List.mem_cons_self ..)
    simp only [List.flatMap_cons, List.length_append, List.length_cons, Nat.succ_mul]
    omega
theorem ruleC_len {l : Str} {r : Rul} (h : RulOk r) (k : Nat) : (ruleC l r k).length ≤ l.length + 7000 := by
  unfold ruleC
  have h1 := ruleP_len (l := l) h r.atoms.length
  have h2 := flat_len condS 122 (r.conds.take k) fun c hc => condS_len (h.2.2.2 c (List.mem_of_mem_take hc))
  have h3 := h.2.2.1
  have h4 : (r.conds.take k).length ≤ 8 := by simp only [List.length_take]; omega
  have h5 : (r.conds.take k).length * 122 ≤ 976 := by omega
  rw [List.length_append]
  omega
theorem ruleC_succ {l : Str} {r : Rul} {k : Nat} (h : k < r.conds.length) : ruleC l r (k + 1) = ruleC l r k ++ condS r.conds[k] := by
  unfold ruleC
  rw [List.take_succ_eq_append_getElem h, List.flatMap_append]
  simp
theorem ruleP_end (l : Str) (r : Rul) : ruleC l r r.conds.length = l ++ ruleS r := by
  unfold ruleC ruleP ruleS
  rw [List.take_length, List.take_length, List.append_assoc]
theorem ruleS_len {r : Rul} (h : RulOk r) : (ruleS r).length ≤ 7000 := by
  have := ruleC_len (l := []) h r.conds.length
  rw [ruleP_end] at this
  simpa using this

set_option maxRecDepth 100000 in
set_option maxHeartbeats 8000000 in
theorem p_rule (B b : Nat) (l : Str) (r : Rul) (A C : Option Addr) (ca cc : Nat) (w0 w : World) (hB : w0.heap.size = B) (h0 : Below B w0 w) (hA : AtmsAt w0 A r.atoms) (hC : CndsAt w0 C r.conds) (htab : Tab w0) (hok : RulOk r) (hp : Prn B b l w) (hl : l.length ≤ 50000) {x : Str} (hx : l ++ ruleS r = x) :
    Calls Tryz.prog 42 #[.pointer (some ⟨b, 0, none⟩), .agg #[.slice A r.atoms.length ca, .slice C r.conds.length cc]] w fun e w' => e = .returned (.tuple #[]) ∧ (Prn B b x w' ∧ Below B w w' ∧ Kp b w w') := by
  subst hB
  have HTab := fun W h => hid (htab.below (w1 := W) h)
  have HTB0 := hid htab
  have HA := hid hA
  have HC := hid hC
  have HOK := hid hok
  have hm : r.atoms.length ≤ 8 := hok.1
  have hmc : r.conds.length ≤ 8 := hok.2.2.1
  have Hlen := hid (ruleP_len (l := l) hok)
  have HlenC := hid (ruleC_len (l := l) hok)
  have HX : Hid (ruleC l r r.conds.length = x) := hid ((ruleP_end l r).trans hx)
  have HJ := hid (fun k (hk : k < r.atoms.length) => join_succ atomS comS hk)
  have HJC := hid (fun k (hk : k < r.conds.length) => ruleC_succ (l := l) hk)
  have hbs := hp.lt
  have hB0 : w0.heap.size ≤ w.heap.size := h0.size
  have HP1 := hid (hp.below (below_one w (.cells #[.slice A r.atoms.length ca, .slice C r.conds.length cc] 42)))
  have HK1 : Hid (Kp b w (w.alloc (.cells #[.slice A r.atoms.length ca, .slice C r.conds.length cc] 42))) := hid ((Lib.OthersKept.refl _ _ w).alloc _)
  have HB1 : Hid (Below w0.heap.size w (w.alloc (.cells #[.slice A r.atoms.length ca, .slice C r.conds.length cc] 42))) := hid ((below_one w _).mono hB0)
  have hbox : (w.alloc (.cells #[.slice A r.atoms.length ca, .slice C r.conds.length cc] 42)).heap[w.heap.size]? = some (.cells #[.slice A r.atoms.length ca, .slice C r.conds.length cc] 42) := heap_alloc_new w _
  have HBox := hid hbox
  have hz1 : w.heap.size + 1 ≤ (w.alloc (.cells #[.slice A r.atoms.length ca, .slice C r.conds.length cc] 42)).heap.size := by simp
  have hne : w.heap.size ≠ b := by omega
  have HZ0 := hid h0
  have d0 := coh hbox (o := 0) rfl
  have HP2 : Hid (Prn w0.heap.size b (ruleP l r 0) (w.alloc (.cells #[.slice A r.atoms.length ca, .slice C r.conds.length cc] 42))) := hid (by unfold ruleP; simpa [joinS] using HP1.out)
  clear hx hok hA hC htab hp h0 hbox HP1
  go_enter Tryz.func42, Tryz.ntmps42
  go_wp2
  clear d0
  generalize (w.alloc (.cells #[.slice A r.atoms.length ca, .slice C r.conds.length cc] 42)) = w1 at *
  go_loopw [11] (fun i wr => ∃ k : Nat, k ≤ r.atoms.length ∧ i = .int .i64 k ∧ Hid (Prn w0.heap.size b (ruleP l r k) wr) ∧ Hid (Below w0.heap.size w wr) ∧ Hid (Kp b w wr) ∧ Hid (wr.heap[w.heap.size]? = some (.cells #[.slice A r.atoms.length ca, .slice C r.conds.length cc] 42)) ∧ w.heap.size + 1 ≤ wr.heap.size) (fun i _ => r.atoms.length - (intOf i).toNat)
  case atStart => exact ⟨0, by omega, rfl, HP2, HB1, HK1, HBox, hz1⟩
  case round =>
    obtain ⟨k, hk, rfl, HPr, HBr, HKr, HBoxr, hszr⟩ := hrel
    clear HP2 HB1 HK1 HBox hz1
    by_cases hlt : k < r.atoms.length
    · obtain ⟨ba, o, rfl, hc⟩ := HA.out (by omega)
      obtain ⟨T, cT, c0, c1, c2, hT, _, _⟩ := hc k hlt
      have hbw := HZ0.out.trans HBr.out
      replace c0 := cell_keep hbw c0
      replace c1 := cell_keep hbw c1
      replace c2 := cell_keep hbw c2
      have hok := HOK.out.2.1 _ (List.getElem_mem hlt)
      have hJ := HJ.out k hlt
      have hcl := Hlen.out k
      obtain ⟨a, ea⟩ : ∃ a, r.atoms[k] = a := ⟨_, rfl⟩
      rw [ea] at c0 c1 c2 hT hok hJ
      have PA := fun W l (h1 : Below w0.heap.size w0 W) (h2 : Prn w0.heap.size b l W) (h3 : l.length ≤ 100000) => hid (p_atom _ b l a T cT w0 W rfl h1 hT HTB0.out hok h2 h3 rfl)
      obtain ⟨ng, eng⟩ : ∃ t, a.neg = t := ⟨_, rfl⟩
      obtain ⟨tl, etl⟩ : ∃ t, a.ts.length = t := ⟨_, rfl⟩
      obtain ⟨Z, hZ⟩ : ∃ Y : ByteArray, (⟨a.rel.toArray⟩ : ByteArray) = Y := ⟨_, rfl⟩
      rw [hZ] at c1
      rw [etl] at c2
      rw [eng] at c0
      rw [hZ, etl, eng] at PA
      obtain ⟨xa, exa⟩ : ∃ s, atomS a = s := ⟨_, rfl⟩
      rw [exa] at PA hJ
      have HP3 := hid (HPr.out.below (below_one wr (.cells #[.bool ng, .string Z, .slice T tl cT] 111)))
      have HB3 := hid (HBr.out.trans ((below_one wr (.cells #[.bool ng, .string Z, .slice T tl cT] 111)).mono (by omega)))
      have HK3 : Hid (Kp b w (wr.alloc (.cells #[.bool ng, .string Z, .slice T tl cT] 111))) := hid (Kp.below HKr.out (below_one wr (.cells #[.bool ng, .string Z, .slice T tl cT] 111)))
      have HBox3 := hid (((below_one wr (.cells #[.bool ng, .string Z, .slice T tl cT] 111)).block _ (by omega)).trans HBoxr.out)
      have HTB := hid (heap_alloc_new wr (.cells #[.bool ng, .string Z, .slice T tl cT] 111))
      have hsz3 : w.heap.size + 1 ≤ (wr.alloc (.cells #[.bool ng, .string Z, .slice T tl cT] 111)).heap.size := by simp; omega
      have HTB2 : Hid (wr.heap.size ≠ b) := hid (by have := HPr.out.lt; omega)
      have e0 := coh HTB.out (o := 0) rfl
      have e1 := coh HTB.out (o := 1) rfl
      have e2 := coh HTB.out (o := 2) rfl
      obtain ⟨wo, rfl⟩ : ∃ wo : World, wo = wr := ⟨_, rfl⟩
      clear hbw hZ hc hok HPr HBr HKr HBoxr hszr ea eng etl exa hT
      by_cases hk0 : k = 0
      · have hk1 : k ≤ 0 := by omega
        have HN := hid (show ruleP l r k ++ xa = ruleP l r (k + 1) by unfold ruleP; rw [hJ, if_pos hk0, List.append_assoc])
        clear hk0 hJ
        go_wp2_with fail
        refine (PA _ _ (HZ0.out.trans HB3.out) HP3.out (by omega)).out.mono ?_
        rintro e w4 ⟨rfl, hP4, hB4, hK4⟩
        rw [HN.out] at hP4
        have HP4 := hid hP4
        have HB4 := hid (HB3.out.trans hB4)
        have HK4 := hid (HK3.out.trans hK4)
        have HBox4 := hid (hK4.block HBox3.out hne (by decide))
        have hsz4 := Nat.le_trans hsz3 hB4.size
        clear HP3 HB3 HK3 HBox3 hP4 hB4 hK4 HN PA e0 e1 e2 HTB HTB2
        go_wp2
        go_roundw
        case rel => exact ⟨k + 1, by omega, by go_num, HP4, HB4, HK4, HBox4, hsz4⟩
        case measure => simp [intOf]; omega
      · have hk1 : 0 < k := by omega
        have HN := hid (show (ruleP l r k ++ comS) ++ xa = ruleP l r (k + 1) by unfold ruleP; rw [hJ, if_neg hk0]; simp)
        have hcl2 : (ruleP l r k ++ comS).length ≤ l.length + 5618 := by rw [List.length_append]; show _ + 2 ≤ _; omega
        clear hk0 hJ
        go_wp2_with fail
        refine (p_put _ b _ ⟨#[44, 32]⟩ _ HP3.out (by omega) (by show (ruleP l r k).length + 2 ≤ _; omega) (y := ruleP l r k ++ comS) rfl).mono ?_
        rintro e wx ⟨rfl, hPx, hBx, hKx⟩
        have HPx := hid hPx
        have HBx := hid (HB3.out.trans hBx)
        have HKx := hid (HK3.out.trans hKx)
        have HBoxx := hid (hKx.block HBox3.out hne (by decide))
        have hTBx := hKx.block HTB.out HTB2.out (by decide)
        have hszx : w.heap.size + 1 ≤ wx.heap.size := Nat.le_trans hsz3 hBx.size
        clear HP3 HB3 HK3 HBox3 hPx hBx hKx e0 e1 e2 HTB hsz3
        have e0 := coh hTBx (o := 0) rfl
        have e1 := coh hTBx (o := 1) rfl
        have e2 := coh hTBx (o := 2) rfl
        clear hTBx
        go_wp2_with fail
        refine (PA _ _ (HZ0.out.trans HBx.out) HPx.out (by omega)).out.mono ?_
        rintro e w4 ⟨rfl, hP4, hB4, hK4⟩
        rw [HN.out] at hP4
        have HP4 := hid hP4
        have HB4 := hid (HBx.out.trans hB4)
        have HK4 := hid (HKx.out.trans hK4)
        have HBox4 := hid (hK4.block HBoxx.out hne (by decide))
        have hsz4 := Nat.le_trans hszx hB4.size
        clear HPx HBx HKx HBoxx hP4 hB4 hK4 HN PA e0 e1 e2 HTB2
        go_wp2
        go_roundw
        case rel => exact ⟨k + 1, by omega, by go_num, HP4, HB4, HK4, HBox4, hsz4⟩
        case measure => simp [intOf]; omega
    · have hend : k = r.atoms.length := by omega
      subst hend
      have HP2 : Hid (Prn w0.heap.size b (ruleC l r 0) wr) := hid (by unfold ruleC; simpa using HPr.out)
      have d1 := coh HBoxr.out (o := 1) rfl
      go_wp2
      clear d1 HPr
      go_loopw [29] (fun i wr => ∃ k : Nat, k ≤ r.conds.length ∧ i = .int .i64 k ∧ Hid (Prn w0.heap.size b (ruleC l r k) wr) ∧ Hid (Below w0.heap.size w wr) ∧ Hid (Kp b w wr) ∧ w.heap.size + 1 ≤ wr.heap.size) (fun i _ => r.conds.length - (intOf i).toNat)
      case atStart => exact ⟨0, by omega, rfl, HP2, HBr, HKr, hszr⟩
      case round =>
        obtain ⟨k, hk, rfl, HPr, HBr, HKr, hszr⟩ := hrel
        clear HP2 HBoxr
        by_cases hlt : k < r.conds.length
        · obtain ⟨bc, o, rfl, hc⟩ := HC.out (by omega)
          obtain ⟨c0, c1, c2, c3, c4⟩ := hc k hlt
          have hbw := HZ0.out.trans HBr.out
          replace c0 := cell_keep hbw c0
          replace c1 := cell_keep hbw c1
          replace c2 := cell_keep hbw c2
          replace c3 := cell_keep hbw c3
          replace c4 := cell_keep hbw c4
          have hok := HOK.out.2.2.2 _ (List.getElem_mem hlt)
          have hJ := HJC.out k hlt
          have hcl := HlenC.out k
          obtain ⟨⟨v1, z2, ⟨z3, z4, z5⟩⟩, ec⟩ : ∃ c, r.conds[k] = c := ⟨_, rfl⟩
          rw [ec] at c0 c1 c2 c3 c4 hok hJ
          obtain ⟨hv16, hval, hI⟩ := hok
          simp only at c0 c1 c2 c3 c4 hv16 hval hI
          obtain ⟨Z, hZ, hZd⟩ : ∃ Y : ByteArray, (⟨v1.toArray⟩ : ByteArray) = Y ∧ Y.data.toList = v1 := ⟨_, rfl, rfl⟩
          rw [hZ] at c0
          have hZb : Z.size ≤ 16 := by
            have h1 : Z.size = v1.length := by rw [← hZd]; simp
            omega
          obtain ⟨hs24, htl⟩ := textL_small hval hI
          have hvt := fun W (hW : Tab W) => hid (value_text ⟨z3, z4, z5⟩ W hI (Nat.le_trans hs24 (by decide)) hW rfl)
          have hop := fun W => hid (ast_operator z2 W)
          obtain ⟨TX, hTX, hTXd⟩ : ∃ Y : ByteArray, (⟨(textL ⟨z3, z4, z5⟩).toArray⟩ : ByteArray) = Y ∧ Y.data.toList = textL ⟨z3, z4, z5⟩ := ⟨_, rfl, rfl⟩
          obtain ⟨OB, hOB, hOBd⟩ : ∃ Y : ByteArray, (⟨(opS z2).toArray⟩ : ByteArray) = Y ∧ Y.data.toList = opS z2 := ⟨_, rfl, rfl⟩
          have hTXb : TX.size ≤ 100 := by
            have h1 : TX.size = (textL ⟨z3, z4, z5⟩).length := by rw [← hTXd]; simp
            omega
          have hOBb : OB.size ≤ 2 := by
            have h1 : OB.size = (opS z2).length := by rw [← hOBd]; simp
            have := opS_len z2
            omega
          rw [hTX] at hvt
          rw [hOB] at hop
          have HN : Hid (ruleC l r k ++ (((((⟨#[44, 32]⟩ ++ Z) ++ ⟨#[32]⟩) ++ OB) ++ ⟨#[32]⟩) ++ TX : ByteArray).data.toList = ruleC l r (k + 1)) := hid (by
            rw [hJ]; unfold condS comS
            simp only [ByteArray.data_append, Array.toList_append, hZd, hTXd, hOBd, List.append_assoc])
          have hS1 : ¬ 9223372036854775807 < 2 + Z.size := by omega
          have hS2 : ¬ 9223372036854775807 < 2 + Z.size + 1 := by omega
          have hS3 : ¬ 9223372036854775807 < 2 + Z.size + 1 + OB.size := by omega
          have hS4 : ¬ 9223372036854775807 < 2 + Z.size + 1 + OB.size + 1 := by omega
          have hS5 : ¬ 9223372036854775807 < 2 + Z.size + 1 + OB.size + 1 + TX.size := by omega
          have HP3 := hid (HPr.out.below (below_one wr (.cells #[.string Z, .int .i64 z2, .int .i64 z3, .int .i64 z4, .string z5] 115)))
          have HB3 := hid (HBr.out.trans ((below_one wr (.cells #[.string Z, .int .i64 z2, .int .i64 z3, .int .i64 z4, .string z5] 115)).mono (by omega)))
          have HK3 : Hid (Kp b w (wr.alloc (.cells #[.string Z, .int .i64 z2, .int .i64 z3, .int .i64 z4, .string z5] 115))) := hid (Kp.below HKr.out (below_one wr (.cells #[.string Z, .int .i64 z2, .int .i64 z3, .int .i64 z4, .string z5] 115)))
          have hTB := heap_alloc_new wr (.cells #[.string Z, .int .i64 z2, .int .i64 z3, .int .i64 z4, .string z5] 115)
          have hsz3 : w.heap.size + 1 ≤ (wr.alloc (.cells #[.string Z, .int .i64 z2, .int .i64 z3, .int .i64 z4, .string z5] 115)).heap.size := by simp; omega
          have HTB2 : Hid (wr.heap.size ≠ b) := hid (by have := HPr.out.lt; omega)
          have e0 := coh hTB (o := 0) rfl
          have e1 := coh hTB (o := 1) rfl
          have e2 := coh hTB (o := 2) rfl
          have e3 := coh hTB (o := 3) rfl
          have e4 := coh hTB (o := 4) rfl
          obtain ⟨wo, rfl⟩ : ∃ wo : World, wo = wr := ⟨_, rfl⟩
          have HTBx := hid hTB
          clear hbw hZ hc HPr HBr HKr hszr ec hZd hTX hTXd hOB hOBd hs24 htl hval hI hv16 hJ hTB
          go_wp2
          generalize (wo.alloc (.cells #[.string Z, .int .i64 z2, .int .i64 z3, .int .i64 z4, .string z5] 115)) = wx at *
          go_region_held3 (fun w' => w'.cell? ⟨wo.heap.size, 0, none⟩ = some (.string Z) ∧ w'.cell? ⟨wo.heap.size, 1, none⟩ = some (.int .i64 z2) ∧ w'.cell? ⟨wo.heap.size, 2, none⟩ = some (.int .i64 z3) ∧ w'.cell? ⟨wo.heap.size, 3, none⟩ = some (.int .i64 z4) ∧ w'.cell? ⟨wo.heap.size, 4, none⟩ = some (.string z5)) (first | exact ⟨e0, e1, e2, e3, e4⟩ | exact ⟨j0, j1, j2, j3, j4⟩ | exact ⟨n0, n1, n2, n3, n4⟩ | exact ⟨m0, m1, m2, m3, m4⟩ | assumption | fail)
            (first
              | (go_at_call 77; refine (hop _).out.mono ?_; rintro e w5 ⟨rfl, b5⟩; have j0 := cell_keep b5 e0; have j1 := cell_keep b5 e1; have j2 := cell_keep b5 e2; have j3 := cell_keep b5 e3; have j4 := cell_keep b5 e4; have HBT : Hid (Below wx.heap.size wx w5) := hid ((Below.refl _ wx).drew.trans b5); clear b5)
              | (go_at_call 78; refine (hvt _ (HTab _ (HZ0.out.trans (HB3.out.trans (HBT.out.mono (by omega))))).out).out.mono ?_; rintro e w3 ⟨rfl, b3⟩; have n0 := cell_keep b3 j0; have n1 := cell_keep b3 j1; have n2 := cell_keep b3 j2; have n3 := cell_keep b3 j3; have n4 := cell_keep b3 j4; have HBT2 : Hid (Below wx.heap.size wx w3) := hid (HBT.out.trans (b3.mono HBT.out.size)); have HP5 := hid (HP3.out.below HBT2.out); have HB5 := hid (HB3.out.trans (HBT2.out.mono (by omega))); have HK5 : Hid (Kp b w w3) := hid (Kp.below HK3.out HBT2.out); have HTB5 := hid ((HBT2.out.block _ (Array.getElem?_eq_some_iff.1 HTBx.out).1).trans HTBx.out); have hsz5 := Nat.le_trans hsz3 HBT2.out.size; clear b3)
              | (go_at_call 18; refine (p_put _ b _ _ _ HP5.out (by omega) (by rw [ByteArray.size_append, ByteArray.size_append, ByteArray.size_append, ByteArray.size_append, ByteArray.size_append]; show _ + (2 + Z.size + 1 + OB.size + 1 + TX.size) ≤ _; omega) (y := ruleC l r (k + 1)) HN.out).mono ?_; rintro e w4 ⟨rfl, hP4, hB4, hK4⟩; have hT4 := hK4.block HTB5.out HTB2.out (by decide); have m0 := coh hT4 (o := 0) rfl; have m1 := coh hT4 (o := 1) rfl; have m2 := coh hT4 (o := 2) rfl; have m3 := coh hT4 (o := 3) rfl; have m4 := coh hT4 (o := 4) rfl; have HP4 := hid hP4; have HB4 := hid (HB5.out.trans hB4); have HK4 := hid (HK5.out.trans hK4); have hsz4 := Nat.le_trans hsz5 hB4.size; clear hP4 hB4 hK4 hT4)
              | fail)
          all_goals
            clear e0 e1 e2 e3 e4 j0 j1 j2 j3 j4 n0 n1 n2 n3 n4 m0 m1 m2 m3 m4 hvt hop HN HP3 HB3 HK3 HP5 HB5 HK5 HTB5 HTB2 HTBx HBT HBT2 hS1 hS2 hS3 hS4 hS5
            go_wp2
            go_roundw
            case rel => exact ⟨k + 1, by omega, by go_num, HP4, HB4, HK4, hsz4⟩
            case measure => simp [intOf]; omega
        · have hend : k = r.conds.length := by omega
          subst hend
          have hP4 := HPr.out
          rw [HX.out] at hP4
          have hbb := HBr.out
          have hkk := HKr.out
          clear HBr HKr HPr
          go_wp2
          go_end0
          exact ⟨rfl, hP4, hbb, hkk⟩

/-! ### Pr5 -/

theorem joinS_eq : ∀ (l : List Str) (s : Str), Lib.join l s = joinS s l
  | [], _ => rfl
  | x :: l, s => by rw [Lib.join_cons]; unfold Lib.joinTail; show _ = x ++ List.flatMap (fun y => s ++ y) l; rw [List.flatMap_def]
theorem p_join (A : Option Addr) (l : List Str) (c : Nat) (w : World) (h : NmsAt w A l) (hc : l.length ≤ c) (hN : l.length ≤ 1000) (hv : ∀ v ∈ l, v.length ≤ 16) {x : Str} (hx : joinS comS l = x) :
    Calls Tryz.prog 20 #[.slice A l.length c, .string ⟨#[44, 32]⟩] w fun e w' => e = .returned (.string ⟨x.toArray⟩) ∧ Below w.heap.size w w' := by
  subst hx
  by_cases h0 : l = []
  · subst h0
    refine (Tryz.strings_Join_none A c ⟨#[44, 32]⟩ w).mono ?_
    rintro e w' ⟨rfl, rfl⟩
    exact ⟨rfl, Below.refl _ _⟩
  · have hp : 0 < l.length := List.length_pos_iff.2 h0
    obtain ⟨b, o, rfl, hcl⟩ := h hp
    have hb := cell_lt (hcl 0 hp)
    have hlen : (l.map fun s => (⟨s.toArray⟩ : ByteArray)).length = l.length := by simp
    have hd : ((l.map fun s => (⟨s.toArray⟩ : ByteArray)).map (·.data.toList)) = l := (List.map_map ..).trans (List.map_id' l)
    have hj := join_len (fun s : Str => s) comS 16 l hv
    have hc2 : comS.length = 2 := rfl
    rw [hc2, List.map_id'] at hj
    have H := Tryz.strings_Join b o c (l.map fun s => (⟨s.toArray⟩ : ByteArray)) ⟨#[44, 32]⟩ w (fun j x hx => by
      rw [List.getElem?_map] at hx
      obtain ⟨v, h1, rfl⟩ := Option.map_eq_some_iff.1 hx
      obtain ⟨h2, h3⟩ := List.getElem?_eq_some_iff.1 h1
      have := hcl j h2
      rw [h3] at this
      exact this) hb (by rw [hlen]; omega) (by rw [hlen]; exact hc) (by
        rw [hd, joinS_eq]
        show (joinS comS l).length ≤ _
        omega)
    rw [hd, hlen, joinS_eq] at H
    exact H

def HeadOk (q : Qry) : Prop := q.head.length ≤ 6 ∧ (∀ v ∈ q.head, v.length ≤ 16) ∧ q.aggVar.length ≤ 16
theorem headS_len {q : Qry} (h : HeadOk q) : (headS q).length ≤ 200 := by
  unfold headS aggS
  obtain ⟨h1, h2, h3⟩ := h
  have hj := join_len (fun s : Str => s) comS 16 q.head h2
  have hc2 : comS.length = 2 := rfl
  rw [hc2, List.map_id'] at hj
  have h5 : q.head.length * (2 + 16) ≤ 108 := by omega
  simp only [List.length_append, List.length_cons, List.length_nil]
  split
  · simp; omega
  split
  · simp; omega
  split
  · simp; omega
  split
  · simp; omega
  · simp; omega

set_option maxRecDepth 100000 in
set_option maxHeartbeats 8000000 in
theorem p_head (B b : Nat) (l : Str) (q : Qry) (A R O : Option Addr) (ch cr co : Nat) (w0 w : World) (hB : w0.heap.size = B) (h0 : Below B w0 w) (hA : NmsAt w0 A q.head) (hch : q.head.length ≤ ch) (hok : HeadOk q) (hp : Prn B b l w) (hl : l.length ≤ 10000) {x : Str} (hx : l ++ headS q = x) :
    Calls Tryz.prog 41 #[.pointer (some ⟨b, 0, none⟩), qryV q A R O ch cr co] w fun e w' => e = .returned (.tuple #[]) ∧ (Prn B b x w' ∧ Below B w w' ∧ Kp b w w') := by
  subst hB
  obtain ⟨hok1, hok2, hok3⟩ := hok
  obtain ⟨Y, hY, hYd⟩ : ∃ Y : ByteArray, (⟨q.aggVar.toArray⟩ : ByteArray) = Y ∧ Y.data.toList = q.aggVar := ⟨_, rfl, rfl⟩
  have hYb : Y.size ≤ 16 := by
    have h1 : Y.size = q.aggVar.length := by rw [← hYd]; simp
    omega
  unfold qryV
  rw [hY]
  obtain ⟨nr, enr⟩ : ∃ n, q.rules.length = n := ⟨_, rfl⟩
  obtain ⟨no, eno⟩ : ∃ n, q.order.length = n := ⟨_, rfl⟩
  rw [enr, eno]
  have HYd := hid hYd
  clear hY enr eno hYd
  obtain ⟨hd, ga, av, rs, os⟩ := q
  simp only at hA hch hok1 hok2 hok3 HYd ⊢
  obtain ⟨jx, ejx⟩ : ∃ j, joinS comS hd = j := ⟨_, rfl⟩
  have hjl : jx.length ≤ 108 := by
    have hj := join_len (fun s : Str => s) comS 16 hd hok2
    have hc2 : comS.length = 2 := rfl
    rw [hc2, List.map_id', ejx] at hj
    omega
  have HJoin := fun W (h : NmsAt W A hd) => hid (p_join A hd ch W h hch (by omega) hok2 ejx)
  have HX : Hid ((((l ++ [97, 110, 115, 40]) ++ jx) ++ aggS ⟨hd, ga, av, rs, os⟩) ++ [41, 32, 58, 45, 32] = x) := hid (by rw [← hx]; unfold headS; rw [ejx]; simp)
  have HA := hid hA
  have HZ0 := hid h0
  have hbs := hp.lt
  have hB0 : w0.heap.size ≤ w.heap.size := h0.size
  have HP1 := hid (hp.below (below_one w (.cells #[.slice A hd.length ch, .int .i64 ga, .string Y, .slice R nr cr, .slice O no co] 27)))
  have HK1 : Hid (Kp b w (w.alloc (.cells #[.slice A hd.length ch, .int .i64 ga, .string Y, .slice R nr cr, .slice O no co] 27))) := hid ((Lib.OthersKept.refl _ _ w).alloc _)
  have HB1 : Hid (Below w0.heap.size w (w.alloc (.cells #[.slice A hd.length ch, .int .i64 ga, .string Y, .slice R nr cr, .slice O no co] 27))) := hid ((below_one w _).mono hB0)
  have hbox : (w.alloc (.cells #[.slice A hd.length ch, .int .i64 ga, .string Y, .slice R nr cr, .slice O no co] 27)).heap[w.heap.size]? = some (.cells #[.slice A hd.length ch, .int .i64 ga, .string Y, .slice R nr cr, .slice O no co] 27) := heap_alloc_new w _
  have HBox := hid hbox
  have hz1 : w.heap.size + 1 ≤ (w.alloc (.cells #[.slice A hd.length ch, .int .i64 ga, .string Y, .slice R nr cr, .slice O no co] 27)).heap.size := by simp
  have hne : w.heap.size ≠ b := by omega
  clear hx hA hp h0 hbox ejx hok2 hch
  go_enter Tryz.func41, Tryz.ntmps41
  go_wp2_with fail
  refine (p_put _ b l ⟨#[97, 110, 115, 40]⟩ _ HP1.out (by omega) (by show l.length + 4 ≤ _; omega) (y := l ++ [97, 110, 115, 40]) rfl).mono ?_
  rintro e wx ⟨rfl, hP, hB2, hK2⟩
  have HPx := hid hP
  have HBx := hid (HB1.out.trans hB2)
  have HKx : Hid (Kp b w wx) := hid (HK1.out.trans hK2)
  have HBoxx := hid (hK2.block HBox.out hne (by decide))
  have hszx := Nat.le_trans hz1 hB2.size
  clear HP1 HB1 HK1 HBox hz1 hP hB2 hK2
  have d0 := coh HBoxx.out (o := 0) rfl
  go_wp2
  go_region_held3 (fun w' => w'.cell? ⟨w.heap.size, 0, none⟩ = some (.slice A hd.length ch)) (first | exact d0 | exact n0 | exact m0 | assumption | fail)
    (first
      | (go_at_call 20; refine (HJoin _ (HA.out.below (HZ0.out.trans HBx.out.drew))).out.mono ?_; rintro e w3 ⟨rfl, b3⟩; have n0 := cell_keep b3 d0; have HBT : Hid (Below wx.heap.size wx w3) := hid ((Below.refl _ wx).drew.trans b3); have HP3 := hid (HPx.out.below HBT.out); have HB3 := hid (HBx.out.trans (HBT.out.mono (by omega))); have HK3 : Hid (Kp b w w3) := hid (Kp.below HKx.out HBT.out); have HBox3 := hid ((HBT.out.block _ (by omega)).trans HBoxx.out); have hsz3 := Nat.le_trans hszx HBT.out.size; clear b3)
      | (go_at_call 18; refine (p_put _ b _ _ _ HP3.out (by omega) (by show (l ++ [97, 110, 115, 40]).length + jx.length ≤ _; rw [List.length_append]; show l.length + 4 + _ ≤ _; omega) (y := (l ++ [97, 110, 115, 40]) ++ jx) rfl).mono ?_; rintro e w4 ⟨rfl, hP4, hB4, hK4⟩; have HP4 := hid hP4; have HB4 := hid (HB3.out.trans hB4); have HK4 : Hid (Kp b w w4) := hid (HK3.out.trans hK4); have HBox4 := hid (hK4.block HBox3.out hne (by decide)); have m0 := coh HBox4.out (o := 0) rfl; have hsz4 := Nat.le_trans hsz3 hB4.size; clear hP4 hB4 hK4)
      | fail)
  all_goals
    have hcl : ((l ++ [97, 110, 115, 40]) ++ jx).length ≤ l.length + 112 := by rw [List.length_append, List.length_append]; show l.length + 4 + _ ≤ _; omega
    obtain ⟨cur, ecur⟩ : ∃ c, (l ++ [97, 110, 115, 40]) ++ jx = c := ⟨_, rfl⟩
    rw [ecur] at HX HP4 hcl
    clear d0 n0 m0 HP3 HB3 HK3 HBox3 HBT HPx HBx HKx HBoxx HJoin hsz3 hszx ecur
    have m1 := coh HBox4.out (o := 1) rfl
    have m2 := coh HBox4.out (o := 2) rfl
    by_cases g1 : ga = 1
    · have b1 : (ga == 1) = true := by simpa using g1
      have HX2 : Hid ((cur ++ [59, 32, 99, 111, 117, 110, 116]) ++ [41, 32, 58, 45, 32] = x) := hid (by have := HX.out; unfold aggS at this; rw [if_pos g1] at this; exact this)
      clear g1 HX
      go_wp2_with fail
      refine (p_put _ b _ ⟨#[59, 32, 99, 111, 117, 110, 116]⟩ _ HP4.out (by omega) (by show cur.length + 7 ≤ _; omega) (y := cur ++ [59, 32, 99, 111, 117, 110, 116]) rfl).mono ?_
      rintro e w5 ⟨rfl, hP5, hB5, hK5⟩
      have HP5 := hid hP5
      have HB5 := hid (HB4.out.trans hB5)
      have HK5 : Hid (Kp b w w5) := hid (HK4.out.trans hK5)
      have hsz5 := Nat.le_trans hsz4 hB5.size
      clear HP4 HB4 HK4 HBox4 hP5 hB5 hK5 m1 m2
      go_wp2_with fail
      refine (p_put _ b _ ⟨#[41, 32, 58, 45, 32]⟩ _ HP5.out (by omega) (by rw [List.length_append]; show cur.length + 7 + 5 ≤ _; omega) (y := x) HX2.out).mono ?_
      rintro e w6 ⟨rfl, hP6, hB6, hK6⟩
      have hbb := HB5.out.trans hB6
      have hkk := HK5.out.trans hK6
      clear HP5 HB5 HK5 HX2 hB6 hK6
      go_wp2
      go_end0
      exact ⟨rfl, hP6, hbb, hkk⟩
    · have b1 : (ga == 1) = false := by simpa using g1
      by_cases g2 : ga = 2
      · have HX2 : Hid ((cur ++ ([59, 32, 115, 117, 109, 32] ++ Y.data.toList)) ++ [41, 32, 58, 45, 32] = x) := hid (by have := HX.out; unfold aggS at this; rw [if_neg g1, if_pos g2] at this; rw [HYd.out]; exact this)
        subst g2
        have hS : ¬ 9223372036854775807 < 6 + Y.size := by omega
        clear HX
        go_wp2
        go_still_tail 6, (by kernel_rfl)
        change wpList _ _ _ _ _ w4.drew
        have HPd := hid (show Prn w0.heap.size b cur w4.drew from HP4.out)
        have HBd := hid (show Below w0.heap.size w w4.drew from HB4.out.drew)
        have HKd : Hid (Kp b w w4.drew) := hid (HK4.out.drew)
        have hszd : w.heap.size + 1 ≤ w4.drew.heap.size := hsz4
        clear HP4 HB4 HK4 HBox4 m1 m2 hS hsz4
        generalize w4.drew = wd at *
        go_wp2_with fail
        refine (p_put _ b _ _ _ HPd.out (by omega) (by rw [ByteArray.size_append]; show _ + (6 + Y.size) ≤ _; omega) (y := cur ++ ([59, 32, 115, 117, 109, 32] ++ Y.data.toList)) (by simp [ByteArray.data_append])).mono ?_
        rintro e w5 ⟨rfl, hP5, hB5, hK5⟩
        have HP5 := hid hP5
        have HB5 := hid (HBd.out.trans hB5)
        have HK5 : Hid (Kp b w w5) := hid (HKd.out.trans hK5)
        have hsz5 := Nat.le_trans hszd hB5.size
        have hYl : Y.data.toList.length = Y.size := by simp
        have hl5 : (cur ++ ([59, 32, 115, 117, 109, 32] ++ Y.data.toList)).length + 5 ≤ 1000000 := by rw [List.length_append, List.length_append, hYl]; show cur.length + (6 + Y.size) + 5 ≤ _; omega
        clear HPd HBd HKd hP5 hB5 hK5 hszd hYl
        go_wp2_with fail
        refine (p_put _ b _ ⟨#[41, 32, 58, 45, 32]⟩ _ HP5.out (by omega) (by show _ + 5 ≤ _; exact hl5) (y := x) HX2.out).mono ?_
        rintro e w6 ⟨rfl, hP6, hB6, hK6⟩
        have hbb := HB5.out.trans hB6
        have hkk := HK5.out.trans hK6
        clear HP5 HB5 HK5 HX2 hB6 hK6 hl5
        go_wp2
        go_end0
        exact ⟨rfl, hP6, hbb, hkk⟩
      by_cases g3 : ga = 3
      · have HX2 : Hid ((cur ++ ([59, 32, 109, 105, 110, 32] ++ Y.data.toList)) ++ [41, 32, 58, 45, 32] = x) := hid (by have := HX.out; unfold aggS at this; rw [if_neg g1, if_neg g2, if_pos g3] at this; rw [HYd.out]; exact this)
        subst g3
        have hS : ¬ 9223372036854775807 < 6 + Y.size := by omega
        clear HX
        go_wp2
        go_still_tail 6, (by kernel_rfl)
        change wpList _ _ _ _ _ w4.drew
        have HPd := hid (show Prn w0.heap.size b cur w4.drew from HP4.out)
        have HBd := hid (show Below w0.heap.size w w4.drew from HB4.out.drew)
        have HKd : Hid (Kp b w w4.drew) := hid (HK4.out.drew)
        have hszd : w.heap.size + 1 ≤ w4.drew.heap.size := hsz4
        clear HP4 HB4 HK4 HBox4 m1 m2 hS hsz4
        generalize w4.drew = wd at *
        go_wp2_with fail
        refine (p_put _ b _ _ _ HPd.out (by omega) (by rw [ByteArray.size_append]; show _ + (6 + Y.size) ≤ _; omega) (y := cur ++ ([59, 32, 109, 105, 110, 32] ++ Y.data.toList)) (by simp [ByteArray.data_append])).mono ?_
        rintro e w5 ⟨rfl, hP5, hB5, hK5⟩
        have HP5 := hid hP5
        have HB5 := hid (HBd.out.trans hB5)
        have HK5 : Hid (Kp b w w5) := hid (HKd.out.trans hK5)
        have hsz5 := Nat.le_trans hszd hB5.size
        have hYl : Y.data.toList.length = Y.size := by simp
        have hl5 : (cur ++ ([59, 32, 109, 105, 110, 32] ++ Y.data.toList)).length + 5 ≤ 1000000 := by rw [List.length_append, List.length_append, hYl]; show cur.length + (6 + Y.size) + 5 ≤ _; omega
        clear HPd HBd HKd hP5 hB5 hK5 hszd hYl
        go_wp2_with fail
        refine (p_put _ b _ ⟨#[41, 32, 58, 45, 32]⟩ _ HP5.out (by omega) (by show _ + 5 ≤ _; exact hl5) (y := x) HX2.out).mono ?_
        rintro e w6 ⟨rfl, hP6, hB6, hK6⟩
        have hbb := HB5.out.trans hB6
        have hkk := HK5.out.trans hK6
        clear HP5 HB5 HK5 HX2 hB6 hK6 hl5
        go_wp2
        go_end0
        exact ⟨rfl, hP6, hbb, hkk⟩
      by_cases g4 : ga = 4
      · have HX2 : Hid ((cur ++ ([59, 32, 109, 97, 120, 32] ++ Y.data.toList)) ++ [41, 32, 58, 45, 32] = x) := hid (by have := HX.out; unfold aggS at this; rw [if_neg g1, if_neg g2, if_neg g3, if_pos g4] at this; rw [HYd.out]; exact this)
        subst g4
        have hS : ¬ 9223372036854775807 < 6 + Y.size := by omega
        clear HX
        go_wp2
        go_still_tail 6, (by kernel_rfl)
        change wpList _ _ _ _ _ w4.drew
        have HPd := hid (show Prn w0.heap.size b cur w4.drew from HP4.out)
        have HBd := hid (show Below w0.heap.size w w4.drew from HB4.out.drew)
        have HKd : Hid (Kp b w w4.drew) := hid (HK4.out.drew)
        have hszd : w.heap.size + 1 ≤ w4.drew.heap.size := hsz4
        clear HP4 HB4 HK4 HBox4 m1 m2 hS hsz4
        generalize w4.drew = wd at *
        go_wp2_with fail
        refine (p_put _ b _ _ _ HPd.out (by omega) (by rw [ByteArray.size_append]; show _ + (6 + Y.size) ≤ _; omega) (y := cur ++ ([59, 32, 109, 97, 120, 32] ++ Y.data.toList)) (by simp [ByteArray.data_append])).mono ?_
        rintro e w5 ⟨rfl, hP5, hB5, hK5⟩
        have HP5 := hid hP5
        have HB5 := hid (HBd.out.trans hB5)
        have HK5 : Hid (Kp b w w5) := hid (HKd.out.trans hK5)
        have hsz5 := Nat.le_trans hszd hB5.size
        have hYl : Y.data.toList.length = Y.size := by simp
        have hl5 : (cur ++ ([59, 32, 109, 97, 120, 32] ++ Y.data.toList)).length + 5 ≤ 1000000 := by rw [List.length_append, List.length_append, hYl]; show cur.length + (6 + Y.size) + 5 ≤ _; omega
        clear HPd HBd HKd hP5 hB5 hK5 hszd hYl
        go_wp2_with fail
        refine (p_put _ b _ ⟨#[41, 32, 58, 45, 32]⟩ _ HP5.out (by omega) (by show _ + 5 ≤ _; exact hl5) (y := x) HX2.out).mono ?_
        rintro e w6 ⟨rfl, hP6, hB6, hK6⟩
        have hbb := HB5.out.trans hB6
        have hkk := HK5.out.trans hK6
        clear HP5 HB5 HK5 HX2 hB6 hK6 hl5
        go_wp2
        go_end0
        exact ⟨rfl, hP6, hbb, hkk⟩
      · have HX2 : Hid (cur ++ [41, 32, 58, 45, 32] = x) := hid (by have := HX.out; unfold aggS at this; rw [if_neg g1, if_neg g2, if_neg g3, if_neg g4, List.append_nil] at this; exact this)
        have b2 : (ga == 2) = false := by simpa using g2
        have b3 : (ga == 3) = false := by simpa using g3
        have b4 : (ga == 4) = false := by simpa using g4
        clear g1 g2 g3 g4 HX
        go_wp2_with fail
        refine (p_put _ b _ ⟨#[41, 32, 58, 45, 32]⟩ _ HP4.out (by omega) (by show cur.length + 5 ≤ _; omega) (y := x) HX2.out).mono ?_
        rintro e w6 ⟨rfl, hP6, hB6, hK6⟩
        have hbb := HB4.out.trans hB6
        have hkk := HK4.out.trans hK6
        clear HP4 HB4 HK4 HX2 hB6 hK6 m1 m2 HBox4
        go_wp2
        go_end0
        exact ⟨rfl, hP6, hbb, hkk⟩

/-! ### Pr6 -/

/-- What ast.Print answers. -/
def printQ (q : Qry) : Str × Int := if checkQ q = 0 then (textQ q, 0) else ([], checkQ q)
def queP (q : Qry) (k : Nat) : Str := headS q ++ joinS barS ((q.rules.take k).map ruleS)
def queO (q : Qry) (k : Nat) : Str := queP q q.rules.length ++ orderS (q.order.take k)
theorem queO_end (q : Qry) : queO q q.order.length = textQ q := by
  unfold queO queP textQ
  rw [List.take_length, List.take_length]
theorem queO_succ {q : Qry} {k : Nat} (h : k < q.order.length) : queO q (k + 1) = queO q k ++ (if k = 0 then [32, 111, 114, 100, 101, 114, 32] else comS) ++ keyS q.order[k] := by
  unfold queO
  rw [order_succ h]
  simp only [List.append_assoc]
def KyOk (k : Ky) : Prop := k.v.length ≤ 16
structure QryOk (q : Qry) : Prop where
  head : HeadOk q
  len : q.rules.length ≤ 3
  rules : ∀ r ∈ q.rules, RulOk r
  olen : q.order.length ≤ 6
  order : ∀ k ∈ q.order, KyOk k
theorem nameB_len {l : Str} (h : nameB l = true) : l.length ≤ 16 := by
  unfold nameB catB at h
  simp only [Bool.and_eq_true, decide_eq_true_eq] at h
  exact h.2.2.1
theorem atm_ok {a : Atm} (h : atomE a = 0) (hw : a.wf) : AtmOk a := by
  unfold atomE at h
  split at h
  · exact absurd h (by decide)
  rename_i h1
  split at h
  · exact absurd h (by decide)
  rename_i h2
  refine ⟨nameB_len (by simpa using h1), by omega, fun t ht => ?_⟩
  have ht0 := firstE_zero h t ht
  refine ⟨?_, fun hv => ?_⟩
  · by_cases hv : t.v = []
    · rw [hv]; simp
    · exact nameB_len (termE_var ht0 hv)
  · unfold termE at ht0
    rw [if_pos hv] at ht0
    refine ⟨?_, (hw.ts t ht).c.n⟩
    split at ht0
    · assumption
    · exact absurd ht0 (by decide)
theorem cnd_ok {c : Cnd} (h : condE c = 0) (hw : c.wf) : CndOk c := by
  unfold condE at h
  split at h
  · exact absurd h (by decide)
  rename_i h1
  split at h
  · exact absurd h (by decide)
  split at h
  · rename_i h3
    exact ⟨nameB_len (by simpa using h1), h3, hw.c.n⟩
  · exact absurd h (by decide)
theorem ruleE_items {q : Qry} {r : Rul} (h : ruleE q r = 0) : itemsE r = 0 := by
  unfold ruleE at h
  split at h
  · assumption
  · exact absurd h (by assumption)
theorem rul_ok {q : Qry} {r : Rul} (h : ruleE q r = 0) (hw : r.wf) : RulOk r := by
  have h := ruleE_items h
  unfold itemsE at h
  split at h
  · exact absurd h (by decide)
  split at h
  · exact absurd h (by decide)
  rename_i h2
  split at h
  · rename_i h3
    exact ⟨by omega, fun a ha => atm_ok (firstE_zero h3 a ha) (hw.atoms a ha), by omega, fun c hc => cnd_ok (firstE_zero h c hc) (hw.conds c hc)⟩
  · exact absurd h (by assumption)
theorem orderGo_zero (hd : List Str) : ∀ (l : List Ky) (pre : List Str), orderGo hd pre l = 0 → (∀ k ∈ l, k.v ∈ hd ∧ k.v ∉ pre) ∧ (l.map (·.v)).Nodup
  | [], _, _ => by simp
  | k :: l, pre, h => by
    unfold orderGo at h
    split at h
    · rename_i h1
      split at h
      · exact absurd h (by decide)
      · rename_i h2
        obtain ⟨h3, h4⟩ := orderGo_zero hd l (pre ++ [k.v]) h
        refine ⟨fun u hu => ?_, ?_⟩
        · rcases List.mem_cons.1 hu with rfl | hu
          · exact ⟨h1, h2⟩
          · exact ⟨(h3 u hu).1, fun e => (h3 u hu).2 (List.mem_append_left _ e)⟩
        · rw [List.map_cons, List.nodup_cons]
          refine ⟨fun e => ?_, h4⟩
          obtain ⟨u, hu, e⟩ := List.mem_map.1 e
          exact (h3 u hu).2 (by rw [e]; simp)
    · exact absurd h (by decide)
theorem nodup_len {α : Type} : ∀ {l m : List α}, l.Nodup → (∀ x ∈ l, x ∈ m) → l.length ≤ m.length
  | [], _, _, _ => by simp
  | x :: l, m, hn, hs => by
    rw [List.nodup_cons] at hn
    obtain ⟨m1, m2, rfl⟩ := List.append_of_mem (hs x (List.mem_cons_self ..))
    have := nodup_len (l := l) (m := m1 ++ m2) hn.2 fun y hy => by
      have h1 := hs y (List.mem_cons_of_mem _ hy)
      rcases List.mem_append.1 h1 with h | h
      · exact List.mem_append_left _ h
      · rcases List.mem_cons.1 h with rfl | h
        · exact absurd hy hn.1
        · exact List.mem_append_right _ h
    simp only [List.length_append, List.length_cons] at this ⊢
    omega
theorem qry_ok {q : Qry} (h : checkQ q = 0) (hw : q.wf) : QryOk q := by
  unfold checkQ at h
  split at h
  · exact absurd h (by decide)
  split at h
  · exact absurd h (by decide)
  rename_i h2
  split at h
  · exact absurd h (by assumption)
  rename_i h3
  split at h
  · exact absurd h (by assumption)
  rename_i h4
  split at h
  · exact absurd h (by assumption)
  rename_i h5
  have h3 : headE q.head = 0 := by simpa using h3
  have h4 : aggE q = 0 := by simpa using h4
  have h5 : firstE (ruleE q) q.rules = 0 := by simpa using h5
  obtain ⟨k1, k2, k3⟩ := headE_zero h3
  obtain ⟨k4, k5⟩ := orderGo_zero q.head q.order [] h
  refine ⟨⟨k1, fun v hv => nameB_len (k2 v hv), ?_⟩, ?_, fun r hr => rul_ok (firstE_zero h5 r hr) (hw.rules r hr), ?_, fun k hk => nameB_len (k2 _ (k4 k hk).1)⟩
  · unfold aggE at h4
    split at h4
    · split at h4
      · rename_i h6; rw [h6]; simp
      · exact absurd h4 (by decide)
    split at h4
    · split at h4
      · rename_i h6; exact nameB_len h6
      · exact absurd h4 (by decide)
    · exact absurd h4 (by decide)
  · have : ¬ (3 < q.rules.length) := fun h => h2 (.inl h)
    omega
  · have := nodup_len k5 (m := q.head) fun x hx => by
      obtain ⟨k, hk, rfl⟩ := List.mem_map.1 hx
      exact (k4 k hk).1
    simp only [List.length_map] at this
    omega
theorem queP_len {q : Qry} (h : QryOk q) (k : Nat) : (queP q k).length ≤ 22000 := by
  unfold queP
  have h1 := join_len ruleS barS 7000 (q.rules.take k) fun a ha => ruleS_len (h.rules a (List.mem_of_mem_take ha))
  have h2 := h.len
  have h3 := headS_len h.head
  have hc : barS.length = 3 := rfl
  rw [hc] at h1
  have h4 : (q.rules.take k).length ≤ 3 := by simp only [List.length_take]; omega
  have h5 : (q.rules.take k).length * (3 + 7000) ≤ 21009 := by omega
  rw [List.length_append]
  omega
theorem queO_len {q : Qry} (h : QryOk q) (k : Nat) : (queO q k).length ≤ 23000 := by
  unfold queO
  have h1 := queP_len h q.rules.length
  have h2 := h.olen
  have h3 : (orderS (q.order.take k)).length ≤ 200 := by
    unfold orderS
    split
    · simp
    · have h5 := join_len keyS comS 21 (q.order.take k) fun x hx => by
        have := h.order x (List.mem_of_mem_take hx)
        unfold KyOk at this
        unfold keyS
        rw [List.length_append]
        split <;> simp <;> omega
      have hc : comS.length = 2 := rfl
      rw [hc] at h5
      have h4 : (q.order.take k).length ≤ 6 := by simp only [List.length_take]; omega
      have h6 : (q.order.take k).length * (2 + 21) ≤ 138 := by omega
      rw [List.length_append]
      show 7 + _ ≤ _
      omega
  rw [List.length_append]
  omega

/-! ### Pr7 -/

set_option maxRecDepth 100000 in
set_option maxHeartbeats 8000000 in
theorem ast_print (q : Qry) (A R O : Option Addr) (ch cr co : Nat) (w : World) (hq : QryIn w q A R O ch cr co) (hwf : q.wf) (htab : Tab w) {x : Str × Int} (hx : printQ q = x) :
    Calls Tryz.prog 21 #[qryV q A R O ch cr co] w fun e w' => e = .returned (.tuple #[.string ⟨x.1.toArray⟩, .int .i64 x.2]) ∧ Below w.heap.size w w' := by
  obtain ⟨y, ey⟩ : ∃ y, checkQ q = y := ⟨_, rfl⟩
  have C1 := fun W h => hid (ast_check q A R O ch cr co W h hwf ey)
  have HQ := hid hq
  have HX : Hid ((if y = 0 then (textQ q, 0) else ([], y)) = x) := hid (by rw [← hx, ← ey]; rfl)
  have hok := fun h : y = 0 => qry_ok (ey.trans h) hwf
  have HOKF := hid hok
  have HT := hid htab
  have hmr := hq.mr
  have hmo := hq.mo
  have CH := fun W B b l w0 h1 h2 h3 h4 h5 h6 => hid (p_head B b l q A R O ch cr co w0 W h1 h2 h3 hq.lh h4 h5 h6 rfl)
  obtain ⟨Y, hY⟩ : ∃ Y : ByteArray, (⟨q.aggVar.toArray⟩ : ByteArray) = Y := ⟨_, rfl⟩
  unfold qryV at C1 CH ⊢
  rw [hY] at C1 CH ⊢
  have hbox0 : Below (w.heap.size + 1) (w.alloc (.cells #[.slice A q.head.length ch, .int .i64 q.agg, .string Y, .slice R q.rules.length cr, .slice O q.order.length co] 27)) (w.alloc (.cells #[.slice A q.head.length ch, .int .i64 q.agg, .string Y, .slice R q.rules.length cr, .slice O q.order.length co] 27)) := Below.refl _ _
  obtain ⟨_, _, _, _, _, _, hb0⟩ := qry_cells hbox0
  have HB0 := hid hbox0
  clear hx ey hok htab hY hq hwf
  go_enter Tryz.func21, Tryz.ntmps21
  go_wp2_with fail
  refine (C1 _ (HQ.out.below hb0)).out.mono ?_
  rintro e wc ⟨rfl, bc⟩
  have HBc := hid (HB0.out.trans (bc.mono (by simp)))
  clear C1 bc HB0 hbox0 hb0
  have hgc : wc.heap[w.heap.size]? = some (.cells #[.slice A q.head.length ch, .int .i64 q.agg, .string Y, .slice R q.rules.length cr, .slice O q.order.length co] 27) := (HBc.out.block _ (by omega)).trans (heap_alloc_new w _)
  obtain ⟨_, _, _, _, _, hlc, hbc⟩ := qry_cells HBc.out
  have HG := hid hgc
  have HBW := hid hbc
  clear HBc hgc hbc
  by_cases hy : y = 0
  · have by1 : (y != 0) = false := by simpa using hy
    have HXX := HX.out
    rw [if_pos hy] at HXX
    have HX2 := hid HXX
    have hok := HOKF.out hy
    have HOK := hid hok
    have hlen3 := hok.len
    have hlen6 := hok.olen
    have HlenP := hid (queP_len hok)
    have HlenO := hid (queO_len hok)
    have HQc := hid (HQ.out.below HBW.out)
    have HTc := hid (HT.out.below HBW.out)
    subst hy
    clear HX HOKF HXX hok HQ HT
    have HPz : Hid (Prn wc.heap.size wc.heap.size [] (wc.alloc (.cells #[.pointer none, .slice none 0 0] 96))) := hid (Lib.IsBuilderF.of (Lib.fresh_isBuilder 96 5 wc))
    have HBz := hid ((below_one wc (.cells #[.pointer none, .slice none 0 0] 96)))
    have d0 := cell_keep HBz.out (coh HG.out (o := 0) rfl)
    have d1 := cell_keep HBz.out (coh HG.out (o := 1) rfl)
    have d2 := cell_keep HBz.out (coh HG.out (o := 2) rfl)
    have d3 := cell_keep HBz.out (coh HG.out (o := 3) rfl)
    have d4 := cell_keep HBz.out (coh HG.out (o := 4) rfl)
    have hszz : wc.heap.size + 1 ≤ (wc.alloc (.cells #[.pointer none, .slice none 0 0] 96)).heap.size := by simp
    go_wp2_with fail
    refine (CH _ _ _ _ wc rfl HBz.out HQc.out.head HOK.out.head HPz.out (by simp)).out.mono ?_
    rintro e w1 ⟨rfl, hP, hB, _⟩
    have HP1 : Hid (Prn wc.heap.size wc.heap.size (queP q 0) w1) := hid (by unfold queP; simpa [joinS] using hP)
    have HB1 := hid (HBz.out.trans hB)
    have hsz1 := Nat.le_trans hszz hB.size
    clear HPz HBz d0 d1 d2 d3 d4 hP hB CH hszz
    have d3 := cell_keep HB1.out (coh HG.out (o := 3) rfl)
    go_wp2
    clear d3
    go_loopw [20] (fun i wr => ∃ k : Nat, k ≤ q.rules.length ∧ i = .int .i64 k ∧ Hid (Prn wc.heap.size wc.heap.size (queP q k) wr) ∧ Hid (Below wc.heap.size wc wr) ∧ wc.heap.size + 1 ≤ wr.heap.size) (fun i _ => q.rules.length - (intOf i).toNat)
    case atStart => exact ⟨0, by omega, rfl, HP1, HB1, hsz1⟩
    case round =>
      obtain ⟨k, hk, rfl, HPr, HBr, hszr⟩ := hrel
      clear HP1 HB1 hsz1
      by_cases hlt : k < q.rules.length
      · obtain ⟨br, o, rfl, hc⟩ := HQc.out.rules (by omega)
        obtain ⟨RA, ca, RC, cc, c0, c1, hRA, hRC, _⟩ := hc k hlt
        replace c0 := cell_keep HBr.out c0
        replace c1 := cell_keep HBr.out c1
        have hok := HOK.out.rules _ (List.getElem_mem hlt)
        have hJ := join_succ ruleS barS hlt
        have hcl := HlenP.out k
        obtain ⟨r, er⟩ : ∃ r, q.rules[k] = r := ⟨_, rfl⟩
        rw [er] at c0 c1 hRA hRC hok hJ
        have PA := fun W l (h1 : Below wc.heap.size wc W) (h2 : Prn wc.heap.size wc.heap.size l W) (h3 : l.length ≤ 50000) => hid (p_rule _ _ l r RA RC ca cc wc W rfl h1 hRA hRC HTc.out hok h2 h3 rfl)
        obtain ⟨na, ena⟩ : ∃ t, r.atoms.length = t := ⟨_, rfl⟩
        obtain ⟨nc, enc⟩ : ∃ t, r.conds.length = t := ⟨_, rfl⟩
        obtain ⟨xa, exa⟩ : ∃ s, ruleS r = s := ⟨_, rfl⟩
        rw [ena] at c0
        rw [enc] at c1
        rw [ena, enc, exa] at PA
        rw [exa] at hJ
        have HP3 := hid (HPr.out.below (below_one wr (.cells #[.slice RA na ca, .slice RC nc cc] 42)))
        have HB3 := hid (HBr.out.trans ((below_one wr (.cells #[.slice RA na ca, .slice RC nc cc] 42)).mono (by omega)))
        have HTB := hid (heap_alloc_new wr (.cells #[.slice RA na ca, .slice RC nc cc] 42))
        have hsz3 : wc.heap.size + 1 ≤ (wr.alloc (.cells #[.slice RA na ca, .slice RC nc cc] 42)).heap.size := by simp; omega
        have HTB2 : Hid (wr.heap.size ≠ wc.heap.size) := hid (by omega)
        have e0 := coh HTB.out (o := 0) rfl
        have e1 := coh HTB.out (o := 1) rfl
        obtain ⟨wo, rfl⟩ : ∃ wo : World, wo = wr := ⟨_, rfl⟩
        clear hc hok HPr HBr hszr er ena enc exa hRA hRC
        by_cases hk0 : k = 0
        · have hk1 : k ≤ 0 := by omega
          have HN := hid (show queP q k ++ xa = queP q (k + 1) by unfold queP; rw [hJ, if_pos hk0, List.append_assoc])
          clear hk0 hJ
          go_wp2_with fail
          refine (PA _ _ HB3.out HP3.out (by omega)).out.mono ?_
          rintro e w4 ⟨rfl, hP4, hB4, _⟩
          rw [HN.out] at hP4
          have HP4 := hid hP4
          have HB4 := hid (HB3.out.trans hB4)
          have hsz4 := Nat.le_trans hsz3 hB4.size
          clear HP3 HB3 hP4 hB4 HN PA e0 e1 HTB HTB2
          go_wp2
          go_roundw
          case rel => exact ⟨k + 1, by omega, by go_num, HP4, HB4, hsz4⟩
          case measure => simp [intOf]; omega
        · have hk1 : 0 < k := by omega
          have HN := hid (show (queP q k ++ barS) ++ xa = queP q (k + 1) by unfold queP; rw [hJ, if_neg hk0]; simp)
          have hcl2 : (queP q k ++ barS).length ≤ 22003 := by rw [List.length_append]; show _ + 3 ≤ _; omega
          clear hk0 hJ
          go_wp2_with fail
          refine (p_put _ _ _ ⟨#[32, 124, 32]⟩ _ HP3.out (by omega) (by show (queP q k).length + 3 ≤ _; omega) (y := queP q k ++ barS) rfl).mono ?_
          rintro e wx ⟨rfl, hPx, hBx, hKx⟩
          have HPx := hid hPx
          have HBx := hid (HB3.out.trans hBx)
          have hTBx := hKx.block HTB.out HTB2.out (by decide)
          have hszx := Nat.le_trans hsz3 hBx.size
          clear HP3 HB3 hPx hBx hKx e0 e1 HTB hsz3
          have e0 := coh hTBx (o := 0) rfl
          have e1 := coh hTBx (o := 1) rfl
          clear hTBx
          go_wp2_with fail
          refine (PA _ _ HBx.out HPx.out (by omega)).out.mono ?_
          rintro e w4 ⟨rfl, hP4, hB4, _⟩
          rw [HN.out] at hP4
          have HP4 := hid hP4
          have HB4 := hid (HBx.out.trans hB4)
          have hsz4 := Nat.le_trans hszx hB4.size
          clear HPx HBx hP4 hB4 HN PA e0 e1 HTB2
          go_wp2
          go_roundw
          case rel => exact ⟨k + 1, by omega, by go_num, HP4, HB4, hsz4⟩
          case measure => simp [intOf]; omega
      · have hend : k = q.rules.length := by omega
        subst hend
        have HP2 : Hid (Prn wc.heap.size wc.heap.size (queO q 0) wr) := hid (by unfold queO orderS; simpa using HPr.out)
        have d4 := cell_keep HBr.out (coh HG.out (o := 4) rfl)
        go_wp2
        clear d4 HPr
        go_loopw [35] (fun i wr => ∃ k : Nat, k ≤ q.order.length ∧ i = .int .i64 k ∧ Hid (Prn wc.heap.size wc.heap.size (queO q k) wr) ∧ Hid (Below wc.heap.size wc wr) ∧ wc.heap.size + 1 ≤ wr.heap.size) (fun i _ => q.order.length - (intOf i).toNat)
        case atStart => exact ⟨0, by omega, rfl, HP2, HBr, hszr⟩
        case round =>
          obtain ⟨k, hk, rfl, HPr, HBr, hszr⟩ := hrel
          clear HP2
          by_cases hlt : k < q.order.length
          · obtain ⟨bk, o, rfl, hc⟩ := HQc.out.order (by omega)
            obtain ⟨c0, c1⟩ := hc k hlt
            replace c0 := cell_keep HBr.out c0
            replace c1 := cell_keep HBr.out c1
            have hok := HOK.out.order _ (List.getElem_mem hlt)
            have hJ := queO_succ hlt
            have hcl := HlenO.out k
            obtain ⟨⟨kv, kd⟩, ek⟩ : ∃ c, q.order[k] = c := ⟨_, rfl⟩
            rw [ek] at c0 c1 hok hJ
            unfold KyOk at hok
            simp only at c0 c1 hok
            obtain ⟨Z, hZ, hZd⟩ : ∃ Y : ByteArray, (⟨kv.toArray⟩ : ByteArray) = Y ∧ Y.data.toList = kv := ⟨_, rfl, rfl⟩
            rw [hZ] at c0
            have hZb : Z.size ≤ 16 := by
              have h1 : Z.size = kv.length := by rw [← hZd]; simp
              omega
            have HZd := hid hZd
            have HP3 := hid (HPr.out.below (below_one wr (.cells #[.string Z, .bool kd] 37)))
            have HB3 := hid (HBr.out.trans ((below_one wr (.cells #[.string Z, .bool kd] 37)).mono (by omega)))
            have HTB := hid (heap_alloc_new wr (.cells #[.string Z, .bool kd] 37))
            have hsz3 : wc.heap.size + 1 ≤ (wr.alloc (.cells #[.string Z, .bool kd] 37)).heap.size := by simp; omega
            have HTB2 : Hid (wr.heap.size ≠ wc.heap.size) := hid (by omega)
            have e0 := coh HTB.out (o := 0) rfl
            have e1 := coh HTB.out (o := 1) rfl
            obtain ⟨wo, rfl⟩ : ∃ wo : World, wo = wr := ⟨_, rfl⟩
            clear hc hok HPr HBr hszr ek hZ hZd
            by_cases hk0 : k = 0
            · have b0 : ((k : Int) == 0) = true := by rw [beq_iff_eq]; omega
              have HN := hid (show (queO q k ++ [32, 111, 114, 100, 101, 114, 32]) ++ keyS ⟨kv, kd⟩ = queO q (k + 1) by rw [hJ, if_pos hk0])
              have hk1 : k ≤ 0 := by omega
              clear hk0 hJ
              go_wp2_with fail
              refine (p_put _ _ _ ⟨#[32, 111, 114, 100, 101, 114, 32]⟩ _ HP3.out (by omega) (by show (queO q k).length + 7 ≤ _; omega) (y := queO q k ++ [32, 111, 114, 100, 101, 114, 32]) rfl).mono ?_
              rintro e wx ⟨rfl, hPx, hBx, hKx⟩
              have HPx := hid hPx
              have HBx := hid (HB3.out.trans hBx)
              have HTBx := hid (hKx.block HTB.out HTB2.out (by decide))
              have hszx := Nat.le_trans hsz3 hBx.size
              clear HP3 HB3 hPx hBx hKx e0 e1 HTB hsz3
              have e0 := coh HTBx.out (o := 0) rfl
              go_wp2_with fail
              refine (p_put _ _ _ Z _ HPx.out (by omega) (by rw [List.length_append]; show _ + 7 + _ ≤ _; omega) (y := (queO q k ++ [32, 111, 114, 100, 101, 114, 32]) ++ Z.data.toList) rfl).mono ?_
              rintro e wy ⟨rfl, hPy, hBy, hKy⟩
              have HPy := hid hPy
              have HBy := hid (HBx.out.trans hBy)
              have hTBy := hKy.block HTBx.out HTB2.out (by decide)
              have hszy := Nat.le_trans hszx hBy.size
              clear HPx HBx hPy hBy hKy e0 HTBx hszx HTB2
              have e1 := coh hTBy (o := 1) rfl
              clear hTBy
              cases kd
              · have HN2 := HN.out
                unfold keyS at HN2
                simp only [Bool.false_eq_true, if_false, List.append_nil] at HN2
                have HP4 : Hid (Prn wc.heap.size wc.heap.size (queO q (k + 1)) wy) := hid (by rw [← HN2, ← HZd.out]; exact HPy.out)
                clear HPy HN HN2
                go_wp2
                go_roundw
                case rel => exact ⟨k + 1, by omega, by go_num, HP4, HBy, hszy⟩
                case measure => simp [intOf]; omega
              · have HN2 := HN.out
                unfold keyS at HN2
                simp only [if_true] at HN2
                have HN3 := hid HN2
                have hzl : ((queO q k ++ [32, 111, 114, 100, 101, 114, 32]) ++ Z.data.toList).length ≤ 24000 := by
                  have h1 : Z.data.toList.length = Z.size := by simp
                  rw [List.length_append, List.length_append, h1]; show _ + 7 + _ ≤ _; omega
                clear HN HN2
                go_wp2_with fail
                refine (p_put _ _ _ ⟨#[32, 100, 101, 115, 99]⟩ _ HPy.out (by omega) (by show _ + 5 ≤ _; omega) (y := queO q (k + 1)) (by rw [← HN3.out, HZd.out]; simp)).mono ?_
                rintro e w4 ⟨rfl, hP4, hB4, _⟩
                have HP4 := hid hP4
                have HB4 := hid (HBy.out.trans hB4)
                have hsz4 := Nat.le_trans hszy hB4.size
                clear HPy HBy hP4 hB4 e1 hzl
                go_wp2
                go_roundw
                case rel => exact ⟨k + 1, by omega, by go_num, HP4, HB4, hsz4⟩
                case measure => simp [intOf]; omega
            · have b0 : ((k : Int) == 0) = false := by rw [beq_eq_false_iff_ne]; omega
              have HN := hid (show (queO q k ++ comS) ++ keyS ⟨kv, kd⟩ = queO q (k + 1) by rw [hJ, if_neg hk0])
              have hk1 : 0 < k := by omega
              clear hk0 hJ
              go_wp2_with fail
              refine (p_put _ _ _ ⟨#[44, 32]⟩ _ HP3.out (by omega) (by show (queO q k).length + 2 ≤ _; omega) (y := queO q k ++ comS) rfl).mono ?_
              rintro e wx ⟨rfl, hPx, hBx, hKx⟩
              have HPx := hid hPx
              have HBx := hid (HB3.out.trans hBx)
              have HTBx := hid (hKx.block HTB.out HTB2.out (by decide))
              have hszx := Nat.le_trans hsz3 hBx.size
              clear HP3 HB3 hPx hBx hKx e0 e1 HTB hsz3
              have e0 := coh HTBx.out (o := 0) rfl
              go_wp2_with fail
              refine (p_put _ _ _ Z _ HPx.out (by omega) (by rw [List.length_append]; show _ + 2 + _ ≤ _; omega) (y := (queO q k ++ comS) ++ Z.data.toList) rfl).mono ?_
              rintro e wy ⟨rfl, hPy, hBy, hKy⟩
              have HPy := hid hPy
              have HBy := hid (HBx.out.trans hBy)
              have hTBy := hKy.block HTBx.out HTB2.out (by decide)
              have hszy := Nat.le_trans hszx hBy.size
              clear HPx HBx hPy hBy hKy e0 HTBx hszx HTB2
              have e1 := coh hTBy (o := 1) rfl
              clear hTBy
              cases kd
              · have HN2 := HN.out
                unfold keyS at HN2
                simp only [Bool.false_eq_true, if_false, List.append_nil] at HN2
                have HP4 : Hid (Prn wc.heap.size wc.heap.size (queO q (k + 1)) wy) := hid (by rw [← HN2, ← HZd.out]; exact HPy.out)
                clear HPy HN HN2
                go_wp2
                go_roundw
                case rel => exact ⟨k + 1, by omega, by go_num, HP4, HBy, hszy⟩
                case measure => simp [intOf]; omega
              · have HN2 := HN.out
                unfold keyS at HN2
                simp only [if_true] at HN2
                have HN3 := hid HN2
                have hzl : ((queO q k ++ comS) ++ Z.data.toList).length ≤ 24000 := by
                  have h1 : Z.data.toList.length = Z.size := by simp
                  rw [List.length_append, List.length_append, h1]; show _ + 2 + _ ≤ _; omega
                clear HN HN2
                go_wp2_with fail
                refine (p_put _ _ _ ⟨#[32, 100, 101, 115, 99]⟩ _ HPy.out (by omega) (by show _ + 5 ≤ _; omega) (y := queO q (k + 1)) (by rw [← HN3.out, HZd.out]; simp)).mono ?_
                rintro e w4 ⟨rfl, hP4, hB4, _⟩
                have HP4 := hid hP4
                have HB4 := hid (HBy.out.trans hB4)
                have hsz4 := Nat.le_trans hszy hB4.size
                clear HPy HBy hP4 hB4 e1 hzl
                go_wp2
                go_roundw
                case rel => exact ⟨k + 1, by omega, by go_num, HP4, HB4, hsz4⟩
                case measure => simp [intOf]; omega
          · have hend : k = q.order.length := by omega
            subst hend
            have hPe := HPr.out
            have hle := HlenO.out q.order.length
            rw [queO_end] at hPe hle
            have HPe := hid hPe
            have hne : textQ q ≠ [] := by unfold textQ headS; simp
            obtain ⟨tq, etq⟩ : ∃ t, textQ q = t := ⟨_, rfl⟩
            rw [etq] at hle hne HX2 HPe
            have HXe := hid HX2.out.symm
            clear HPr hPe HX2 etq
            go_wp2_with fail
            refine (p_len _ _ tq _ HPe.out).mono ?_
            rintro e w7 ⟨rfl, rfl⟩
            go_wp2_with fail
            refine (p_string _ _ tq _ HPe.out hne).mono ?_
            rintro e w8 ⟨rfl, b8⟩
            have hbb := HBW.out.trans ((HBr.out.trans b8).mono HBW.out.size)
            clear HBr b8 HPe hle
            go_wp2
            go_ret2
            rw [HXe.out]
            exact ⟨rfl, hbb⟩
  · have by1 : (y != 0) = true := by simpa using hy
    have HXX := HX.out
    rw [if_neg hy] at HXX
    have HX2 := hid HXX.symm
    have hbb := HBW.out
    clear HX HXX HOKF
    go_wp2
    go_ret2
    rw [HX2.out]
    exact ⟨rfl, hbb⟩
end
end Go.Proofs.YtnbacdmlaedppaaGreatDoor
