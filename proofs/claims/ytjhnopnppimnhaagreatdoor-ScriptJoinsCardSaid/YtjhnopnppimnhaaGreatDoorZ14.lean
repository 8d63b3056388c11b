/-
  PARTS of a claim, merged by segs.py: Cm1, Unq.
-/
import Derived.Test.YtjhnopnppimnhaaGreatDoorZ04
import Derived.Test.YtjhnopnppimnhaaGreatDoorZ13
import Derived.Test.YtjhnopnppimnhaaGreatDoorZ02
import Derived.Test.YtjhnopnppimnhaaGreatDoorZ07
namespace Go.Proofs.YtjhnopnppimnhaaGreatDoor

/-! ### Cm1 -/
section

/-- Up to the first byte c; what follows it; does it occur? -/
def cutL (c : UInt8) : Str → Str × Str × Bool
  | [] => ([], [], false)
  | x :: l => if x = c then ([], l, true) else (x :: (cutL c l).1, (cutL c l).2.1, (cutL c l).2.2)
theorem cutL_eq (c : UInt8) : ∀ l : Str, l = (cutL c l).1 ++ (if (cutL c l).2.2 = true then c :: (cutL c l).2.1 else []) ∧ ((cutL c l).2.2 = false → (cutL c l).2.1 = [])
  | [] => ⟨rfl, fun _ => rfl⟩
  | x :: l => by
    unfold cutL
    by_cases h : x = c
    · rw [if_pos h, h]; exact ⟨rfl, fun h => absurd h (show ¬ (true = false) by decide)⟩
    · rw [if_neg h]
      obtain ⟨h1, h2⟩ := cutL_eq c l
      exact ⟨congrArg (x :: ·) h1, h2⟩
theorem cutL_no (c : UInt8) : ∀ l : Str, c ∉ (cutL c l).1
  | [] => by simp [cutL]
  | x :: l => by
    unfold cutL
    by_cases h : x = c
    · rw [if_pos h]; simp
    · rw [if_neg h]
      have := cutL_no c l
      simp only [List.mem_cons, not_or]
      exact ⟨fun e => h e.symm, this⟩
theorem cutL_app {c : UInt8} : ∀ {a r : Str}, c ∉ a → cutL c (a ++ c :: r) = (a, r, true)
  | [], r, _ => by simp [cutL]
  | x :: a, r, h => by
    have h1 : x ≠ c := fun e => h (by simp [e])
    have h2 : c ∉ a := fun e => h (by simp [e])
    rw [List.cons_append, cutL, if_neg h1, cutL_app h2]
theorem cutL_len (c : UInt8) (l : Str) : (cutL c l).2.1.length ≤ l.length ∧ ((cutL c l).2.2 = true → (cutL c l).2.1.length < l.length) ∧ (cutL c l).1.length ≤ l.length := by
  obtain ⟨h1, h2⟩ := cutL_eq c l
  have h3 := congrArg List.length h1
  rw [List.length_append] at h3
  cases h : (cutL c l).2.2 with
  | true => rw [h, if_pos rfl, List.length_cons] at h3; exact ⟨by omega, fun _ => by omega, by omega⟩
  | false => rw [h2 h]; exact ⟨by simp, fun h => absurd h (by decide), by omega⟩

/-- The operations' names. -/
def nam6 : List Str := [[115, 99, 104, 101, 109, 97], [105, 110, 115, 101, 114, 116], [100, 101, 108, 101, 116, 101], [99, 111, 109, 109, 105, 116], [108, 111, 103], [99, 104, 101, 99, 107, 112, 111, 105, 110, 116], [99, 114, 97, 115, 104], [114, 101, 99, 111, 118, 101, 114], [111, 112, 101, 110], [102, 101, 116, 99, 104], [115, 101, 101, 107], [102, 105, 110, 100], [99, 108, 111, 115, 101], [99, 111, 117, 110, 116], [113, 117, 97, 110, 116, 105, 108, 101], [115, 97, 109, 112, 108, 101], [100, 105, 102, 102], [101, 120, 112, 108, 97, 105, 110], [119, 104, 121], [97, 117, 100, 105, 116]]
/-- The operation of a name: its number, or 20 and more. -/
def opOf (w : Str) : Nat := nam6.findIdx (· == w)
def prnB (c : UInt8) : Bool := decide (32 ≤ c.toNat) && decide (c.toNat ≤ 126)
def accB (q : Str) : Bool := q.all prnB && decide ((parseP (scanL q)).2.2 = 0)
structure Cm where
  op : Nat
  name : Str
  nums : List Int
  row : List V
  query : Str
def C0 : Cm := ⟨0, [], [], [], []⟩
structure Sn where
  rest : Str
  ended : Bool
  c : Cm
structure Shp where
  name : Bool
  kinds : Bool
  nums : List (Int × Int)
  row : Bool
  query : Bool
abbrev i64lo : Int := -9223372036854775808
abbrev i64hi : Int := 9223372036854775807
def shpOf (op : Nat) : Shp :=
  if op = 0 then ⟨true, true, [], false, false⟩
  else if op = 1 ∨ op = 2 then ⟨true, false, [], true, false⟩
  else if op = 6 ∨ op = 12 then ⟨false, false, [(0, i64hi)], false, false⟩
  else if op = 8 ∨ op = 13 then ⟨false, false, [(-1, i64hi)], false, true⟩
  else if op = 9 then ⟨false, false, [(0, i64hi), (0, 1000)], false, false⟩
  else if op = 10 then ⟨false, false, [(0, i64hi), (0, i64hi)], false, false⟩
  else if op = 11 then ⟨false, false, [(0, i64hi)], true, false⟩
  else if op = 14 then ⟨false, false, [(0, i64hi), (0, i64hi), (-1, i64hi)], false, true⟩
  else if op = 15 then ⟨false, false, [(i64lo, i64hi), (-1, i64hi)], false, true⟩
  else if op = 16 then ⟨false, false, [(0, i64hi), (0, i64hi)], false, true⟩
  else if op = 17 then ⟨false, false, [], false, true⟩
  else if op = 18 then ⟨false, false, [(-1, i64hi)], true, true⟩
  else ⟨false, false, [], false, false⟩
inductive Ag where
  | nam | kds | rqb | row | qry
  | num (lo hi : Int)
def argsF (f : Shp) : List Ag := (if f.name = true then [.nam] else []) ++ ((if f.kinds = true then [.kds] else []) ++ (f.nums.map (fun r => Ag.num r.1 r.2) ++ ((if f.row = true then (if f.query = true then [.rqb] else [.row]) else []) ++ (if f.query = true then [.qry] else []))))

def Sn.word (s : Sn) : Str × Sn := if s.ended = true then ([], s) else ((cutL 32 s.rest).1, ⟨(cutL 32 s.rest).2.1, !(cutL 32 s.rest).2.2, s.c⟩)
def Sn.tail (s : Sn) : Str × Sn := if s.ended = true then ([], s) else (s.rest, ⟨s.rest, true, s.c⟩)
def Sn.nameS (s : Sn) : Sn × Int := (⟨s.word.2.rest, s.word.2.ended, { s.word.2.c with name := s.word.1 }⟩, if s.word.1 = [] then 15 else if catB s.word.1 = false then 7 else 0)
def sInt : Str := [105, 110, 116]
def sStr : Str := [115, 116, 114]
def Sn.push (s : Sn) (n : Int) : Sn := ⟨s.rest, s.ended, { s.c with nums := s.c.nums ++ [n] }⟩
def kindsS : Nat → Sn → Sn × Int
  | 0, s => (s, 0)
  | f + 1, s => if s.ended = true then (s, 0) else
    if s.word.1 = sInt ∨ s.word.1 = sStr then
      (if s.word.2.c.nums.length = 6 then (s.word.2, 12) else kindsS f (s.word.2.push (if s.word.1 = sInt then 1 else 2)))
    else (s.word.2, 15)
def Sn.numS (s : Sn) (lo hi : Int) : Sn × Int :=
  if (pInt s.word.1).2 ≠ 0 then (s.word.2, (pInt s.word.1).2)
  else if (pInt s.word.1).1.n < lo ∨ hi < (pInt s.word.1).1.n then (s.word.2, 3)
  else (s.word.2.push (pInt s.word.1).1.n, 0)
def Sn.setRow (s : Sn) (t : Str) : Sn × Int := match rowQ t with
  | none => (s, 15)
  | some r => (⟨s.rest, s.ended, { s.c with row := r }⟩, 0)
/-- The length up to the first closing parenthesis outside of a string. -/
def shutGo : Bool → Str → Option Nat
  | _, [] => none
  | q, b :: l => if q = true ∧ b = 92 then (match l with
      | [] => none
      | _ :: l' => (shutGo q l').map (· + 2))
    else if b = 34 then (shutGo (!q) l).map (· + 1)
    else if q = false ∧ b = 41 then some 1
    else (shutGo q l).map (· + 1)
def Sn.rqbS (s : Sn) : Sn × Int := if s.ended = true then (s, 15) else match shutGo false s.rest with
  | none => (s, 15)
  | some n => if s.rest.drop n = [] ∨ (s.rest.drop n).getD 0 0 ≠ 32 then (s, 15) else Sn.setRow ⟨(s.rest.drop n).drop 1, s.ended, s.c⟩ (s.rest.take n)
def Sn.qryS (s : Sn) : Sn × Int := (⟨s.tail.2.rest, s.tail.2.ended, { s.tail.2.c with query := s.tail.1 }⟩, if s.tail.1 = [] then 15 else if accB s.tail.1 = false then 21 else 0)
def scanA (a : Ag) (s : Sn) : Sn × Int := match a with
  | .nam => s.nameS
  | .kds => kindsS (s.rest.length + 2) s
  | .num lo hi => s.numS lo hi
  | .rqb => s.rqbS
  | .row => s.tail.2.setRow s.tail.1
  | .qry => s.qryS
def runA : List Ag → Sn → Sn × Int
  | [], s => (s, 0)
  | a :: l, s => if (scanA a s).2 = 0 then runA l (scanA a s).1 else scanA a s
def lineS (l : Str) : Cm × Int :=
  if 20 ≤ opOf (cutL 32 l).1 then (C0, 7)
  else if (runA (argsF (shpOf (opOf (cutL 32 l).1))) ⟨(cutL 32 l).2.1, !(cutL 32 l).2.2, ⟨opOf (cutL 32 l).1, [], [], [], []⟩⟩).2 ≠ 0 then (C0, (runA (argsF (shpOf (opOf (cutL 32 l).1))) ⟨(cutL 32 l).2.1, !(cutL 32 l).2.2, ⟨opOf (cutL 32 l).1, [], [], [], []⟩⟩).2)
  else if (runA (argsF (shpOf (opOf (cutL 32 l).1))) ⟨(cutL 32 l).2.1, !(cutL 32 l).2.2, ⟨opOf (cutL 32 l).1, [], [], [], []⟩⟩).1.ended = true then ((runA (argsF (shpOf (opOf (cutL 32 l).1))) ⟨(cutL 32 l).2.1, !(cutL 32 l).2.2, ⟨opOf (cutL 32 l).1, [], [], [], []⟩⟩).1.c, 0)
  else (C0, 15)

/-- The text of a command. -/
def numT (op : Nat) (n : Int) : Str := if op = 0 then (if n = 1 then sInt else sStr) else Lib.itoa n
def partsC (c : Cm) : List Str := (if (shpOf c.op).name = true then [c.name] else []) ++ (c.nums.map (numT c.op) ++ ((if (shpOf c.op).row = true then [rowTextL c.row] else []) ++ (if (shpOf c.op).query = true then [c.query] else [])))
def flat32 (l : List Str) : Str := l.flatMap fun w => 32 :: w
def textC (c : Cm) : Str := nam6.getD c.op [] ++ flat32 (partsC c) ++ [10]
theorem flat32_app (a b : List Str) : flat32 (a ++ b) = flat32 a ++ flat32 b := by simp [flat32]
/-- The first error of a command. -/
def rangesB (l : List Int) (r : List (Int × Int)) : Bool := (l.zip r).all fun x => decide (x.2.1 ≤ x.1) && decide (x.1 ≤ x.2.2)
structure CmOk (c : Cm) : Prop where
  op : c.op < 20
  len : (shpOf c.op).kinds = false → c.nums.length = (shpOf c.op).nums.length
  name : (shpOf c.op).name = true → catB c.name = true
  six : (shpOf c.op).kinds = true → c.nums.length ≤ 6 ∧ ∀ n ∈ c.nums, n = 1 ∨ n = 2
  rng : (shpOf c.op).kinds = false → rangesB c.nums (shpOf c.op).nums = true
  i64 : ∀ n ∈ c.nums, I64 n
  row : (shpOf c.op).row = true → (∀ v ∈ c.row, v.valid = true ∧ I64 v.n) ∧ (rowTextL c.row).all prnB = true
  qry : (shpOf c.op).query = true → accB c.query = true ∧ c.query ≠ []
  noN : (shpOf c.op).name = false → c.name = []
  noR : (shpOf c.op).row = false → c.row = []
  noQ : (shpOf c.op).query = false → c.query = []

/-- What is left of the line, the space ahead of it too. -/
def Sn.left (s : Sn) : Str := if s.ended = true then [] else 32 :: s.rest
theorem word_left {s : Sn} (h : s.ended = false) : s.left = 32 :: (s.word.1 ++ s.word.2.left) ∧ s.word.2.c = s.c := by
  unfold Sn.left Sn.word
  rw [h, if_neg (by decide), if_neg (by decide)]
  obtain ⟨h1, h2⟩ := cutL_eq 32 s.rest
  refine ⟨?_, rfl⟩
  simp only
  congr 1
  cases hm : (cutL 32 s.rest).2.2 with
  | true => rw [hm, if_pos rfl] at h1; simpa using h1
  | false => rw [hm, if_neg (by decide)] at h1; simpa using h1
theorem word_ended {s : Sn} (h : s.ended = true) : s.word = ([], s) := by unfold Sn.word; rw [if_pos h]
theorem tail_left {s : Sn} (h : s.ended = false) : s.left = 32 :: (s.tail.1 ++ s.tail.2.left) ∧ s.tail.2.c = s.c := by
  unfold Sn.left Sn.tail
  rw [h, if_neg (by decide), if_neg (by decide)]
  exact ⟨by simp, rfl⟩
theorem tail_ended {s : Sn} (h : s.ended = true) : s.tail = ([], s) := by unfold Sn.tail; rw [if_pos h]
/-- What one argument reads: the text, the command before and behind. -/
theorem name_read {s : Sn} (h : s.nameS.2 = 0) : s.left = (32 :: s.nameS.1.c.name) ++ s.nameS.1.left ∧ catB s.nameS.1.c.name = true ∧ s.nameS.1.c = { s.c with name := s.nameS.1.c.name } := by
  unfold Sn.nameS at *
  simp only at h ⊢
  have hw : s.word.1 ≠ [] := by intro e; rw [if_pos e] at h; exact absurd h (by decide)
  rw [if_neg hw] at h
  have he : s.ended = false := by
    cases he : s.ended with
    | true => exact absurd (congrArg Prod.fst (word_ended he)) hw
    | false => rfl
  have hc : catB s.word.1 = true := by
    cases hc : catB s.word.1 with
    | true => rfl
    | false => rw [if_pos hc] at h; exact absurd h (by decide)
  obtain ⟨h1, h2⟩ := word_left he
  exact ⟨by rw [h1]; rfl, hc, by rw [h2]⟩
theorem pInt_read {w : Str} (h : (pInt w).2 = 0) : Lib.itoa (pInt w).1.n = w ∧ I64 (pInt w).1.n ∧ w ≠ [] := by
  have hne : w ≠ [] := by
    intro e
    rw [e] at h
    exact absurd h (by decide)
  have h34 : ¬ w.getD 0 0 = 34 := by
    intro e
    have := pInt_none (l := w) (by unfold isDig; rw [e]; decide) (by rw [e]; decide)
    rw [this] at h
    exact absurd h (by decide)
  have hp : parseL w = ((pInt w).1, 0) := by
    unfold parseL
    rw [if_neg hne, if_neg h34]
    exact Prod.ext rfl h
  obtain ⟨h1, h2, h3, _⟩ := text_parse hp
  have hk : (pInt w).1.k = 1 := by
    unfold pInt at h ⊢
    split at h
    · exact absurd h (by decide)
    · rename_i c1
      rw [if_neg c1]
      split at h
      · exact absurd h (by decide)
      · rename_i c2
        rw [if_neg c2]
        split at h
        · exact absurd h (by decide)
        · rename_i c3
          rw [if_neg c3]; rfl
  rw [textL_int h1 hk] at h2
  exact ⟨h2, h3, hne⟩
theorem num_read {s : Sn} {lo hi : Int} (h : (s.numS lo hi).2 = 0) : ∃ n, s.left = (32 :: Lib.itoa n) ++ (s.numS lo hi).1.left ∧ I64 n ∧ lo ≤ n ∧ n ≤ hi ∧ (s.numS lo hi).1.c = { s.c with nums := s.c.nums ++ [n] } := by
  unfold Sn.numS at *
  by_cases h1 : (pInt s.word.1).2 ≠ 0
  · rw [if_pos h1] at h; exact absurd h h1
  rw [if_neg h1] at h ⊢
  by_cases h2 : (pInt s.word.1).1.n < lo ∨ hi < (pInt s.word.1).1.n
  · rw [if_pos h2] at h; exact absurd h (show ¬ (3 : Int) = 0 by decide)
  rw [if_neg h2]
  obtain ⟨h3, h4, h5⟩ := pInt_read (by simpa using h1)
  have he : s.ended = false := by
    cases he : s.ended with
    | true => exact absurd (congrArg Prod.fst (word_ended he)) h5
    | false => rfl
  obtain ⟨h6, h7⟩ := word_left he
  refine ⟨(pInt s.word.1).1.n, ?_, h4, by omega, by omega, by unfold Sn.push; rw [h7]⟩
  rw [h3, h6]; rfl
theorem kinds_read : ∀ {f : Nat} {s : Sn}, s.rest.length + 2 ≤ f ∨ (s.ended = true) → (kindsS f s).2 = 0 → (s.c.nums.length ≤ 6) → (∀ n ∈ s.c.nums, n = 1 ∨ n = 2) →
    ∃ l : List Int, s.left = flat32 (l.map (numT 0)) ∧ (kindsS f s).1.ended = true ∧ (∀ n ∈ s.c.nums ++ l, n = 1 ∨ n = 2) ∧ (s.c.nums ++ l).length ≤ 6 ∧ (kindsS f s).1.c = { s.c with nums := s.c.nums ++ l }
  | 0, s, hf, h, h6, hn => by
    have he : s.ended = true := by
      rcases hf with hf | hf
      · omega
      · exact hf
    refine ⟨[], by unfold Sn.left; rw [if_pos he]; rfl, he, by simpa using hn, by simpa using h6, by unfold kindsS; simp⟩
  | f + 1, s, hf, h, h6, hn => by
    unfold kindsS at h ⊢
    cases he : s.ended with
    | true =>
      rw [he] at h
      simp only [if_true]
      exact ⟨[], by unfold Sn.left; rw [if_pos he]; rfl, he, by simpa using hn, by simpa using h6, by simp⟩
    | false =>
      rw [he] at h
      simp only [Bool.false_eq_true, if_false] at h ⊢
      obtain ⟨h1, h2⟩ := word_left he
      by_cases hw : s.word.1 = sInt ∨ s.word.1 = sStr
      · rw [if_pos hw] at h ⊢
        by_cases h66 : s.word.2.c.nums.length = 6
        · rw [if_pos h66] at h; exact absurd h (show ¬ (12 : Int) = 0 by decide)
        · rw [if_neg h66] at h ⊢
          rw [h2] at h66
          obtain ⟨n, hk⟩ : ∃ n : Int, (if s.word.1 = sInt then (1 : Int) else 2) = n := ⟨_, rfl⟩
          rw [hk] at h ⊢
          have hn12 : n = 1 ∨ n = 2 := by rw [← hk]; split <;> simp
          have hwt : s.word.1 = numT 0 n := by
            unfold numT
            rw [if_pos rfl, ← hk]
            by_cases hw1 : s.word.1 = sInt
            · rw [if_pos hw1, if_pos rfl]; exact hw1
            · rw [if_neg hw1, if_neg (by decide)]; exact hw.resolve_left hw1
          have hfl : (s.word.2.push n).rest.length + 2 ≤ f ∨ (s.word.2.push n).ended = true := by
            have hl := cutL_len 32 s.rest
            unfold Sn.push Sn.word
            rw [he, if_neg (by decide)]
            simp only
            cases hm : (cutL 32 s.rest).2.2 with
            | true =>
              have := hl.2.1 hm
              rcases hf with hf | hf
              · left; omega
              · rw [he] at hf; exact absurd hf (by decide)
            | false => right; rfl
          have hpc : (s.word.2.push n).c = { s.c with nums := s.c.nums ++ [n] } := by unfold Sn.push; rw [h2]
          obtain ⟨l, g1, g2, g3, g4, g5⟩ := kinds_read (f := f) (s := s.word.2.push n) hfl h (by rw [hpc]; simp; omega) (by
            rw [hpc]
            intro m hm
            simp only [List.mem_append, List.mem_singleton] at hm
            rcases hm with hm | rfl
            · exact hn m hm
            · exact hn12)
          rw [hpc] at g3 g4 g5
          refine ⟨n :: l, ?_, g2, by simpa using g3, by simpa using g4, by rw [g5]; simp⟩
          rw [h1]
          have hlf : s.word.2.left = (s.word.2.push n).left := rfl
          rw [hlf, g1, hwt]
          rfl
      · rw [if_neg hw] at h; exact absurd h (show ¬ (15 : Int) = 0 by decide)
theorem setRow_read {s : Sn} {t : Str} (h : (s.setRow t).2 = 0) : ∃ r, rowTextL r = t ∧ (∀ v ∈ r, v.valid = true ∧ I64 v.n) ∧ (s.setRow t).1 = ⟨s.rest, s.ended, { s.c with row := r }⟩ := by
  unfold Sn.setRow at *
  cases hr : rowQ t with
  | none => rw [hr] at h; exact absurd h (show ¬ (15 : Int) = 0 by decide)
  | some r =>
    obtain ⟨h1, h2, _⟩ := rowQ_inv hr
    exact ⟨r, h1, h2, rfl⟩
theorem row_read {s : Sn} (h : (s.tail.2.setRow s.tail.1).2 = 0) : ∃ r, s.left = (32 :: rowTextL r) ++ (s.tail.2.setRow s.tail.1).1.left ∧ (∀ v ∈ r, v.valid = true ∧ I64 v.n) ∧ (s.tail.2.setRow s.tail.1).1.c = { s.c with row := r } := by
  obtain ⟨r, h1, h2, h3⟩ := setRow_read h
  have he : s.ended = false := by
    cases he : s.ended with
    | true =>
      rw [tail_ended he] at h1
      exact absurd (congrArg List.length h1) (by simp [rowTextL])
    | false => rfl
  obtain ⟨h6, h7⟩ := tail_left he
  refine ⟨r, ?_, h2, by rw [h3, h7]⟩
  rw [h3, h6, h1]; rfl
theorem rqb_read {s : Sn} (h : s.rqbS.2 = 0) : ∃ r, s.left = (32 :: rowTextL r) ++ s.rqbS.1.left ∧ (∀ v ∈ r, v.valid = true ∧ I64 v.n) ∧ s.rqbS.1.c = { s.c with row := r } := by
  unfold Sn.rqbS at *
  cases he : s.ended with
  | true => rw [he] at h; exact absurd h (show ¬ (15 : Int) = 0 by decide)
  | false =>
    rw [he] at h
    simp only [Bool.false_eq_true, if_false] at h ⊢
    cases hg : shutGo false s.rest with
    | none => rw [hg] at h; exact absurd h (show ¬ (15 : Int) = 0 by decide)
    | some n =>
      rw [hg] at h
      simp only at h ⊢
      by_cases hb : s.rest.drop n = [] ∨ (s.rest.drop n).getD 0 0 ≠ 32
      · rw [if_pos hb] at h; exact absurd h (show ¬ (15 : Int) = 0 by decide)
      · rw [if_neg hb] at h ⊢
        obtain ⟨r, h1, h2, h3⟩ := setRow_read h
        refine ⟨r, ?_, h2, by rw [h3]⟩
        rw [h3, h1]
        unfold Sn.left
        rw [he]
        simp only [Bool.false_eq_true, if_false]
        have e1 : s.rest.drop n = 32 :: (s.rest.drop n).drop 1 := by
          match hd : s.rest.drop n with
          | [] => exact absurd (.inl hd) hb
          | x :: l =>
            have : x = 32 := Classical.byContradiction fun hx => hb (.inr (by rw [hd]; exact hx))
            rw [this]; rfl
        have e2 : s.rest = s.rest.take n ++ s.rest.drop n := (List.take_append_drop n s.rest).symm
        rw [List.cons_append, ← e1, ← e2]
theorem qry_read {s : Sn} (h : s.qryS.2 = 0) : s.left = (32 :: s.qryS.1.c.query) ++ s.qryS.1.left ∧ accB s.qryS.1.c.query = true ∧ s.qryS.1.c.query ≠ [] ∧ s.qryS.1.c = { s.c with query := s.qryS.1.c.query } := by
  unfold Sn.qryS at *
  simp only at h ⊢
  have hw : s.tail.1 ≠ [] := by intro e; rw [if_pos e] at h; exact absurd h (by decide)
  rw [if_neg hw] at h
  have he : s.ended = false := by
    cases he : s.ended with
    | true => exact absurd (congrArg Prod.fst (tail_ended he)) hw
    | false => rfl
  have hc : accB s.tail.1 = true := by
    cases hc : accB s.tail.1 with
    | true => rfl
    | false => rw [if_pos hc] at h; exact absurd h (by decide)
  obtain ⟨h1, h2⟩ := tail_left he
  exact ⟨by rw [h1]; rfl, hc, hw, by rw [h2]⟩
theorem runA_cons (a : Ag) (l : List Ag) (s : Sn) : runA (a :: l) s = if (scanA a s).2 = 0 then runA l (scanA a s).1 else scanA a s := rfl
theorem runA_app : ∀ (a b : List Ag) (s : Sn), (runA (a ++ b) s).2 = 0 → (runA a s).2 = 0 ∧ runA (a ++ b) s = runA b (runA a s).1
  | [], b, s, _ => ⟨rfl, rfl⟩
  | x :: a, b, s, h => by
    rw [List.cons_append, runA_cons] at h
    rw [List.cons_append, runA_cons, runA_cons]
    by_cases h0 : (scanA x s).2 = 0
    · rw [if_pos h0] at h
      rw [if_pos h0, if_pos h0]
      exact runA_app a b _ h
    · rw [if_neg h0] at h; exact absurd h h0
theorem runA_one (a : Ag) (s : Sn) (h : (runA [a] s).2 = 0) : (scanA a s).2 = 0 ∧ runA [a] s = scanA a s := by
  unfold runA at h ⊢
  by_cases h0 : (scanA a s).2 = 0
  · rw [if_pos h0]; exact ⟨h0, by unfold runA; exact Prod.ext rfl h0.symm⟩
  · rw [if_neg h0] at h; exact absurd h h0
theorem nums_read : ∀ (r : List (Int × Int)) (s : Sn), (runA (r.map fun r => Ag.num r.1 r.2) s).2 = 0 →
    ∃ l : List Int, s.left = flat32 (l.map Lib.itoa) ++ (runA (r.map fun r => Ag.num r.1 r.2) s).1.left ∧ l.length = r.length ∧ rangesB l r = true ∧ (∀ n ∈ l, I64 n) ∧ (runA (r.map fun r => Ag.num r.1 r.2) s).1.c = { s.c with nums := s.c.nums ++ l }
  | [], s, _ => ⟨[], rfl, rfl, rfl, by simp, by simp [runA]⟩
  | x :: r, s, h => by
    rw [List.map_cons] at h ⊢
    have hs : scanA (Ag.num x.1 x.2) s = s.numS x.1 x.2 := rfl
    unfold runA at h ⊢
    by_cases h0 : (scanA (Ag.num x.1 x.2) s).2 = 0
    · rw [if_pos h0] at h ⊢
      rw [hs] at h h0 ⊢
      obtain ⟨n, a1, a2, a3, a4, a5⟩ := num_read h0
      obtain ⟨l, b1, b2, b3, b4, b5⟩ := nums_read r _ h
      rw [a5] at b5
      refine ⟨n :: l, ?_, by simp [b2], ?_, ?_, by rw [b5]; simp⟩
      · rw [a1, b1]; simp [flat32]
      · unfold rangesB at b3 ⊢
        rw [List.zip_cons_cons, List.all_cons, b3]
        simp [a3, a4]
      · intro m hm
        rcases List.mem_cons.1 hm with rfl | hm
        · exact a2
        · exact b4 m hm
    · rw [if_neg h0] at h; exact absurd h h0
end

/-! ### Unq -/
section
open Go.RowKit

abbrev hexDigits : ByteArray := ⟨#[48, 49, 50, 51, 52, 53, 54, 55, 56, 57, 97, 98, 99, 100, 101, 102]⟩
def ixI (c : UInt8) : Int := match hexIx c with
  | some n => n
  | none => -1
theorem ixI_eq (c : UInt8) : Lib.indexByte hexDigits.data.toList c = ixI c := by
  have h : ∀ i : Fin 256, Lib.indexByte hexDigits.data.toList (UInt8.ofNat i.val) = ixI (UInt8.ofNat i.val) := by decide +kernel
  have := h ⟨c.toNat, c.toNat_lt⟩
  simpa using this

theorem hex_ix (c : UInt8) (w : World) {x : Int} (hx : ixI c = x) :
    Calls Tryz.prog 140 #[.string hexDigits, .int .u8 c.toNat] w fun e w' => e = .returned (.int .i64 x) ∧ Below w.heap.size w w' := by
  refine (Tryz.strings_IndexByte hexDigits c.toNat w).mono fun e w' ⟨h, h'⟩ => ?_
  subst h'
  refine ⟨?_, Below.refl _ _⟩
  rw [h, ← hx, ← ixI_eq]
  simp

theorem or_hex (a b : Nat) (ha : a < 16) (hb : b < 16) : bits .or .i64 ((a : Int) * 16) (b : Int) = (a * 16 + b : Nat) := by
  have h : ∀ a b : Fin 16, bits .or .i64 ((a.val : Int) * 16) (b.val : Int) = (a.val * 16 + b.val : Nat) := by decide +kernel
  exact h ⟨a, ha⟩ ⟨b, hb⟩

theorem getD_of {s : ByteArray} {k : Nat} (h : k < s.size) : s.data.toList.getD k 0 = s[k] := by
  rw [List.getD_eq_getElem?_getD, List.getElem?_eq_getElem (by simpa using h)]; rfl

set_option maxRecDepth 100000 in
set_option maxHeartbeats 1000000 in
theorem unhex (s : ByteArray) (w : World) {b : UInt8} {n : Nat} (hx : unhexL s.data.toList = (b, n)) :
    Calls Tryz.prog 158 #[.string s] w fun e w' => e = .returned (.tuple #[.int .u8 b.toNat, .int .i64 n]) ∧ Below w.heap.size w w' := by
  unfold unhexL at hx
  by_cases h4 : s.size < 4
  · rw [if_pos (by simpa using h4)] at hx
    injection hx with e1 e2
    subst e1 e2
    go_enter Tryz.func158, Tryz.ntmps158
    go_wp2
    go_ret2
    exact ⟨rfl, Below.refl _ _⟩
  · rw [if_neg (by simpa using h4), getD_of (show 2 < s.size by omega), getD_of (show 3 < s.size by omega)] at hx
    have H1 := fun x W (he : ixI s[2] = x) => hid (hex_ix s[2] W he)
    have H2 := fun x W (he : ixI s[3] = x) => hid (hex_ix s[3] W he)
    cases ha : hexIx s[2] with
    | none =>
      rw [ha] at hx
      injection hx with e1 e2
      subst e1 e2
      have HA := hid (show ixI s[2] = -1 by unfold ixI; rw [ha])
      go_enter Tryz.func158, Tryz.ntmps158
      go_wp2_with fail
      refine (H1 _ _ HA.out).out.mono ?_
      rintro e w1 ⟨rfl, k1⟩
      go_wp2_with fail
      refine (H2 _ _ rfl).out.mono ?_
      rintro e w2 ⟨rfl, k2⟩
      have k2' := k1.trans (k2.mono k1.size)
      clear k1 k2 H1 H2
      generalize ixI s[3] = y
      go_wp2
      all_goals
        go_ret2
        exact ⟨rfl, k2'⟩
    | some a =>
      rw [ha] at hx
      have HA := hid (show ixI s[2] = a by unfold ixI; rw [ha])
      have ha' := (hexIx_hexd _ _ ha).2
      cases hb : hexIx s[3] with
      | none =>
        rw [hb] at hx
        injection hx with e1 e2
        subst e1 e2
        have HB := hid (show ixI s[3] = -1 by unfold ixI; rw [hb])
        go_enter Tryz.func158, Tryz.ntmps158
        go_wp2_with fail
        refine (H1 _ _ HA.out).out.mono ?_
        rintro e w1 ⟨rfl, k1⟩
        go_wp2_with fail
        refine (H2 _ _ HB.out).out.mono ?_
        rintro e w2 ⟨rfl, k2⟩
        have k2' := k1.trans (k2.mono k1.size)
        clear k1 k2 H1 H2
        go_wp2
        all_goals
          go_ret2
          exact ⟨rfl, k2'⟩
      | some c =>
        rw [hb] at hx
        have HB := hid (show ixI s[3] = c by unfold ixI; rw [hb])
        have hc' := (hexIx_hexd _ _ hb).2
        have HO := or_hex a c ha' hc'
        have F1 := hid (show short (a * 16 + c) → b = 0 ∧ n = 0 from fun h => by simp only [if_pos h] at hx; injection hx with e1 e2; exact ⟨e1.symm, e2.symm⟩)
        have F2 := hid (show ¬ short (a * 16 + c) → (b.toNat : Int) = (a : Int) * 16 + c ∧ n = 4 from fun h => by
          simp only [if_neg h] at hx
          injection hx with e1 e2
          refine ⟨?_, e2.symm⟩
          rw [← e1]; simp; omega)
        clear hx ha hb
        have hq : ((a : Int) * 16 + c = 10) ∨ ((a : Int) * 16 + c = 9) ∨ (32 ≤ (a : Int) * 16 + c ∧ (a : Int) * 16 + c ≤ 126) ∨ ((a : Int) * 16 + c < 32 ∧ (a : Int) * 16 + c ≠ 10 ∧ (a : Int) * 16 + c ≠ 9) ∨ 126 < (a : Int) * 16 + c := by omega
        rcases hq with hq | hq | hq | hq | hq
        · obtain ⟨rfl, rfl⟩ := F1.out (by unfold short; omega)
          clear F1 F2
          go_enter Tryz.func158, Tryz.ntmps158
          go_wp2_with fail
          refine (H1 _ _ HA.out).out.mono ?_
          rintro e w1 ⟨rfl, k1⟩
          go_wp2_with fail
          refine (H2 _ _ HB.out).out.mono ?_
          rintro e w2 ⟨rfl, k2⟩
          have k2' := k1.trans (k2.mono k1.size)
          clear k1 k2 H1 H2
          go_wp2
          go_ret2
          exact ⟨rfl, k2'⟩
        · obtain ⟨rfl, rfl⟩ := F1.out (by unfold short; omega)
          clear F1 F2
          go_enter Tryz.func158, Tryz.ntmps158
          go_wp2_with fail
          refine (H1 _ _ HA.out).out.mono ?_
          rintro e w1 ⟨rfl, k1⟩
          go_wp2_with fail
          refine (H2 _ _ HB.out).out.mono ?_
          rintro e w2 ⟨rfl, k2⟩
          have k2' := k1.trans (k2.mono k1.size)
          clear k1 k2 H1 H2
          go_wp2
          go_ret2
          exact ⟨rfl, k2'⟩
        · obtain ⟨rfl, rfl⟩ := F1.out (by unfold short; omega)
          clear F1 F2
          have b10 : ((a : Int) * 16 + c == 10) = false := by simp; omega
          have b9 : ((a : Int) * 16 + c == 9) = false := by simp; omega
          go_enter Tryz.func158, Tryz.ntmps158
          go_wp2_with fail
          refine (H1 _ _ HA.out).out.mono ?_
          rintro e w1 ⟨rfl, k1⟩
          go_wp2_with fail
          refine (H2 _ _ HB.out).out.mono ?_
          rintro e w2 ⟨rfl, k2⟩
          have k2' := k1.trans (k2.mono k1.size)
          clear k1 k2 H1 H2
          go_wp2
          go_ret2
          exact ⟨rfl, k2'⟩
        · obtain ⟨e1, rfl⟩ := F2.out (by unfold short; omega)
          clear F1 F2
          have E1 := hid e1
          clear e1
          have b10 : ((a : Int) * 16 + c == 10) = false := by simp; omega
          have b9 : ((a : Int) * 16 + c == 9) = false := by simp; omega
          go_enter Tryz.func158, Tryz.ntmps158
          go_wp2_with fail
          refine (H1 _ _ HA.out).out.mono ?_
          rintro e w1 ⟨rfl, k1⟩
          go_wp2_with fail
          refine (H2 _ _ HB.out).out.mono ?_
          rintro e w2 ⟨rfl, k2⟩
          have k2' := k1.trans (k2.mono k1.size)
          clear k1 k2 H1 H2
          go_wp2
          go_ret2
          rw [E1.out]
          exact ⟨rfl, k2'⟩
        · obtain ⟨e1, rfl⟩ := F2.out (by unfold short; omega)
          clear F1 F2
          have E1 := hid e1
          clear e1
          have b10 : ((a : Int) * 16 + c == 10) = false := by simp; omega
          have b9 : ((a : Int) * 16 + c == 9) = false := by simp; omega
          go_enter Tryz.func158, Tryz.ntmps158
          go_wp2_with fail
          refine (H1 _ _ HA.out).out.mono ?_
          rintro e w1 ⟨rfl, k1⟩
          go_wp2_with fail
          refine (H2 _ _ HB.out).out.mono ?_
          rintro e w2 ⟨rfl, k2⟩
          have k2' := k1.trans (k2.mono k1.size)
          clear k1 k2 H1 H2
          go_wp2
          go_ret2
          rw [E1.out]
          exact ⟨rfl, k2'⟩

set_option maxRecDepth 100000 in
set_option maxHeartbeats 1000000 in
theorem unquote (s : ByteArray) (w : World) {b : UInt8} {n : Nat} (h0 : 0 < s.size) (hx : unquoteL s.data.toList = (b, n)) :
    Calls Tryz.prog 154 #[.string s] w fun e w' => e = .returned (.tuple #[.int .u8 b.toNat, .int .i64 n]) ∧ Below w.heap.size w w' := by
  have HU := hid (fun (h : unhexL s.data.toList = (b, n)) W => unhex s W h)
  unfold unquoteL at hx
  rw [getD_of h0] at hx
  by_cases h92 : s[0].toNat = 92
  · rw [if_neg (by simpa using h92)] at hx
    by_cases h2 : s.size < 2
    · rw [if_pos (by simpa using h2)] at hx
      injection hx with e1 e2
      subst e1 e2
      clear HU
      go_enter Tryz.func154, Tryz.ntmps154
      go_wp2
      all_goals
        go_ret2
        exact ⟨rfl, Below.refl _ _⟩
    · rw [if_neg (by simpa using h2), getD_of (show 1 < s.size by omega)] at hx
      have hb := s[1].toNat_lt
      by_cases c1 : s[1].toNat = 34 ∨ s[1].toNat = 92
      · rw [if_pos c1] at hx
        injection hx with e1 e2
        subst e2
        have E1 := hid (show (b.toNat : Int) = s[1].toNat by rw [← e1])
        clear HU e1
        rcases c1 with c1 | c1
        all_goals
          go_enter Tryz.func154, Tryz.ntmps154
          go_wp2
          go_ret2
          rw [E1.out, c1]
          exact ⟨rfl, Below.refl _ _⟩
      · rw [if_neg c1] at hx
        have b1 : ((s[1].toNat : Int) == 34) = false := by simp; omega
        have b2 : ((s[1].toNat : Int) == 92) = false := by simp; omega
        by_cases c2 : s[1].toNat = 110
        · rw [if_pos c2] at hx
          injection hx with e1 e2
          subst e1 e2
          clear HU
          go_enter Tryz.func154, Tryz.ntmps154
          go_wp2
          go_ret2
          exact ⟨rfl, Below.refl _ _⟩
        · rw [if_neg c2] at hx
          have b3 : ((s[1].toNat : Int) == 110) = false := by simp; omega
          by_cases c3 : s[1].toNat = 116
          · rw [if_pos c3] at hx
            injection hx with e1 e2
            subst e1 e2
            clear HU
            go_enter Tryz.func154, Tryz.ntmps154
            go_wp2
            go_ret2
            exact ⟨rfl, Below.refl _ _⟩
          · rw [if_neg c3] at hx
            have b4 : ((s[1].toNat : Int) == 116) = false := by simp; omega
            by_cases c4 : s[1].toNat = 120
            · rw [if_pos c4] at hx
              have HU2 := fun W => hid (HU.out hx W)
              clear HU hx
              go_enter Tryz.func154, Tryz.ntmps154
              go_wp2_with fail
              refine (HU2 _).out.mono ?_
              rintro e w1 ⟨rfl, k1⟩
              go_wp2
              go_ret2
              exact ⟨rfl, k1⟩
            · rw [if_neg c4] at hx
              have b5 : ((s[1].toNat : Int) == 120) = false := by simp; omega
              injection hx with e1 e2
              subst e1 e2
              clear HU
              go_enter Tryz.func154, Tryz.ntmps154
              go_wp2
              go_ret2
              exact ⟨rfl, Below.refl _ _⟩
  · rw [if_pos (by simpa using h92)] at hx
    have b0 : ((s[0].toNat : Int) == 92) = false := by simp; omega
    clear HU
    by_cases c1 : s[0].toNat < 32 ∨ 126 < s[0].toNat
    · rw [if_pos c1] at hx
      injection hx with e1 e2
      subst e1 e2
      rcases c1 with c1 | c1
      all_goals
        go_enter Tryz.func154, Tryz.ntmps154
        go_wp2
        go_ret2
        exact ⟨rfl, Below.refl _ _⟩
    · rw [if_neg c1] at hx
      injection hx with e1 e2
      subst e2
      have E1 := hid (show (b.toNat : Int) = s[0].toNat by rw [← e1])
      clear e1
      go_enter Tryz.func154, Tryz.ntmps154
      go_wp2
      go_ret2
      rw [E1.out]
      exact ⟨rfl, Below.refl _ _⟩
end
end Go.Proofs.YtjhnopnppimnhaaGreatDoor
