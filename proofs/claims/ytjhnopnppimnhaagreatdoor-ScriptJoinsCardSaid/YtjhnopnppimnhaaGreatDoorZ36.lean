/-
  PARTS of a claim, merged by segs.py: Cm3, Cm4, Sk11, Rw2.
-/
import Derived.Test.YtjhnopnppimnhaaGreatDoorZ35
import Derived.Test.YtjhnopnppimnhaaGreatDoorZ04
import Derived.Test.YtjhnopnppimnhaaGreatDoorZ18
import Derived.Test.YtjhnopnppimnhaaGreatDoorZ10
import Derived.StillTailTactics
import Derived.IntWalk
namespace Go.Proofs.YtjhnopnppimnhaaGreatDoor

/-! ### Cm3 -/
section

def blankB (y : Str) : Bool := y.isEmpty || y.getD 0 0 == 35
/-- The error of a line that a line feed ends. -/
def badE (y : Str) : Int := if y.all prnB = false then 15 else if blankB y = true then 0 else (lineS y).2
def goS (n : Nat) (acc : List (Nat × Cm)) : List Str → List (Nat × Cm) × Nat × Int
  | [] => (acc, 0, 0)
  | y :: r => if r = [] then (if y = [] then (acc, 0, 0) else ([], n, 15))
    else if badE y ≠ 0 then ([], n, badE y)
    else goS (n + 1) (acc ++ (if blankB y = true then [] else [(n, (lineS y).1)])) r
def scriptS (s : Str) : List (Nat × Cm) × Nat × Int := if 65536 < s.length then ([], 0, 13) else goS 1 [] (splitL s)
def cmdsOf (n : Nat) : List Str → List (Nat × Cm)
  | [] => []
  | y :: r => (if blankB y = true then [] else [(n, (lineS y).1)]) ++ cmdsOf (n + 1) r
theorem cmdsOf_cons (n : Nat) (y : Str) (r : List Str) : cmdsOf n (y :: r) = (if blankB y = true then [] else [(n, (lineS y).1)]) ++ cmdsOf (n + 1) r := rfl
def GoodL (D : List Str) : Prop := ∀ y ∈ D, badE y = 0
theorem goS_good : ∀ (D : List Str) {R : List Str} (n : Nat) (acc : List (Nat × Cm)), GoodL D → R ≠ [] → goS n acc (D ++ R) = goS (n + D.length) (acc ++ cmdsOf n D) R
  | [], R, n, acc, _, _ => by simp [cmdsOf]
  | y :: D, R, n, acc, hD, hR => by
    have ih := goS_good D (R := R) (n + 1) (acc ++ (if blankB y = true then [] else [(n, (lineS y).1)])) (fun z hz => hD z (List.mem_cons_of_mem _ hz)) hR
    have hy := hD y (List.mem_cons_self ..)
    rw [List.cons_append]
    conv => lhs; unfold goS
    rw [if_neg (by simp [hR]), if_neg (by rw [hy]; simp), ih]
    rw [cmdsOf_cons, List.append_assoc, List.length_cons, show n + 1 + D.length = n + (D.length + 1) by omega]
theorem goS_end (n : Nat) (acc : List (Nat × Cm)) : goS n acc [[]] = (acc, 0, 0) := by
  unfold goS; rw [if_pos rfl, if_pos rfl]
/-- Where the first line lies that does not fit. -/
theorem goS_ways : ∀ (L : List Str), L ≠ [] → (∃ D, L = D ++ [[]] ∧ GoodL D ∧ ∀ n acc, goS n acc L = (acc ++ cmdsOf n D, 0, 0)) ∨
    ∃ D y R e, L = D ++ y :: R ∧ GoodL D ∧ (R = [] ∧ y ≠ [] ∧ e = 15 ∨ R ≠ [] ∧ badE y = e) ∧ e ≠ 0 ∧ ∀ n acc, goS n acc L = ([], n + D.length, e)
  | [], h => absurd rfl h
  | y :: r, _ => by
    by_cases hr : r = []
    · subst hr
      by_cases hy : y = []
      · subst hy
        exact .inl ⟨[], rfl, fun z hz => (by cases hz), fun n acc => by rw [goS_end]; simp [cmdsOf]⟩
      · refine .inr ⟨[], y, [], 15, rfl, fun z hz => (by cases hz), .inl ⟨rfl, hy, rfl⟩, by decide, fun n acc => ?_⟩
        unfold goS
        rw [if_pos rfl, if_neg hy]; rfl
    · by_cases hb : badE y = 0
      · have key : ∀ n acc, goS n acc (y :: r) = goS (n + 1) (acc ++ (if blankB y = true then [] else [(n, (lineS y).1)])) r := fun n acc => by
          conv => lhs; unfold goS
          rw [if_neg hr, if_neg (by rw [hb]; simp)]
        rcases goS_ways r hr with ⟨D, h1, h2, h3⟩ | ⟨D, z, R, e, h1, h2, h3, h4, h5⟩
        · refine .inl ⟨y :: D, by rw [h1]; rfl, fun z hz => ?_, fun n acc => ?_⟩
          · rcases List.mem_cons.1 hz with rfl | hz
            · exact hb
            · exact h2 z hz
          · rw [key, h3, cmdsOf_cons, List.append_assoc]
        · refine .inr ⟨y :: D, z, R, e, by rw [h1]; rfl, fun z hz => ?_, h3, h4, fun n acc => ?_⟩
          · rcases List.mem_cons.1 hz with rfl | hz
            · exact hb
            · exact h2 z hz
          · rw [key, h5]
            simp only [List.length_cons]
            congr 2; omega
      · refine .inr ⟨[], y, r, badE y, rfl, fun z hz => (by cases hz), .inr ⟨hr, rfl⟩, hb, fun n acc => ?_⟩
        unfold goS
        rw [if_neg hr, if_pos hb]; rfl
theorem cmdsOf_shift (d : Nat) : ∀ (E : List Str) (n : Nat), cmdsOf (n + d) E = (cmdsOf n E).map fun x => (x.1 + d, x.2)
  | [], _ => rfl
  | y :: E, n => by
    rw [cmdsOf_cons, cmdsOf_cons, show n + d + 1 = n + 1 + d by omega, cmdsOf_shift d E (n + 1), List.map_append]
    split <;> rfl
theorem linesT_len (D : List Str) : D.length ≤ (linesT D).length := by
  induction D with
  | nil => simp
  | cons y D ih => unfold linesT at ih ⊢; rw [List.flatMap_cons, List.length_append, List.length_append, List.length_cons, List.length_singleton]; omega
theorem splitL_len (l : Str) : (splitL l).length ≤ l.length + 1 := by
  obtain ⟨z, h1, h2⟩ := splitL_text l
  have h3 := linesT_len (splitL l).dropLast
  have h4 := congrArg List.length h1
  have h5 := congrArg List.length h2
  simp only [List.length_append, List.length_cons, List.length_nil] at h4 h5
  omega
/-- A text that is read to its end. -/
theorem script_ok {s : Str} {cs : List (Nat × Cm)} {n : Nat} (h : scriptS s = (cs, n, 0)) : ∃ D, splitL s = D ++ [[]] ∧ s = linesT D ∧ GoodL D ∧ cs = cmdsOf 1 D ∧ n = 0 ∧ s.length ≤ 65536 := by
  unfold scriptS at h
  split at h
  · exact absurd (congrArg (fun x : List (Nat × Cm) × Nat × Int => x.2.2) h) (by show ¬ (13 : Int) = 0; decide)
  rename_i hl
  rcases goS_ways (splitL s) (splitL_ne s) with ⟨D, h1, h2, h3⟩ | ⟨D, z, R, e, h1, h2, h3, h4, h5⟩
  · rw [h3] at h
    obtain ⟨z, g1, g2⟩ := splitL_text s
    have hz : (splitL s).dropLast = D ∧ z = [] := by
      rw [h1] at g1 ⊢
      rw [List.dropLast_concat] at g1 ⊢
      have := List.append_cancel_left g1
      injection this with this _
      exact ⟨rfl, this.symm⟩
    rw [hz.1, hz.2, List.append_nil] at g2
    have e1 := congrArg Prod.fst h
    have e2 := congrArg (fun x : List (Nat × Cm) × Nat × Int => x.2.1) h
    exact ⟨D, h1, g2, h2, by simpa using e1.symm, e2.symm, by omega⟩
  · rw [h5] at h
    exact absurd (congrArg (fun x : List (Nat × Cm) × Nat × Int => x.2.2) h) h4
theorem script_bad {s : Str} {cs : List (Nat × Cm)} {n : Nat} {e : Int} (h : scriptS s = (cs, n, e)) (he : e ≠ 0) (hl : s.length ≤ 65536) :
    ∃ D y R, splitL s = D ++ y :: R ∧ GoodL D ∧ (R = [] ∧ y ≠ [] ∧ e = 15 ∨ R ≠ [] ∧ badE y = e) ∧ cs = [] ∧ n = 1 + D.length := by
  unfold scriptS at h
  rw [if_neg (by omega)] at h
  rcases goS_ways (splitL s) (splitL_ne s) with ⟨D, h1, h2, h3⟩ | ⟨D, z, R, e', h1, h2, h3, h4, h5⟩
  · rw [h3] at h
    exact absurd (congrArg (fun x : List (Nat × Cm) × Nat × Int => x.2.2) h).symm he
  · rw [h5] at h
    have e1 := congrArg Prod.fst h
    have e2 := congrArg (fun x : List (Nat × Cm) × Nat × Int => x.2.1) h
    have e3 := congrArg (fun x : List (Nat × Cm) × Nat × Int => x.2.2) h
    simp only at e1 e2 e3
    rw [e3] at h3
    exact ⟨D, z, R, h1, h2, h3, e1.symm, e2.symm⟩
theorem good_no {D : List Str} (h : GoodL D) : ∀ y ∈ D, (10 : UInt8) ∉ y := fun y hy hm => by
  have h1 := h y hy
  unfold badE at h1
  split at h1
  · exact absurd h1 (by decide)
  · rename_i hp
    have h2 : y.all prnB = true := by simpa using hp
    have := List.all_eq_true.1 h2 10 hm
    exact absurd this (by decide)
theorem script_lines {D : List Str} (hD : GoodL D) (hl : (linesT D).length ≤ 65536) : scriptS (linesT D) = (cmdsOf 1 D, 0, 0) := by
  unfold scriptS
  rw [if_neg (by omega)]
  have := splitL_join D [] (good_no hD)
  rw [List.append_nil] at this
  rw [this, show splitL [] = [[]] from rfl, goS_good D 1 [] hD (by simp), goS_end]; simp
/-- The law ScriptStops. -/
theorem stops_plain {s more : Str} {cs : List (Nat × Cm)} {n : Nat} {e : Int} (h : scriptS s = (cs, n, e)) (he : e ≠ 0) (hl : s.length ≤ 3000) (hm : more.length ≤ 1000) :
    n ≤ (splitL s).length ∧ 1 ≤ n ∧ (linesT ((splitL s).take (n - 1))).length ≤ 3000 ∧ (∃ cs', scriptS (linesT ((splitL s).take (n - 1))) = (cs', 0, 0)) ∧
      (n < (splitL s).length → ∃ y, (splitL s)[n - 1]? = some y ∧ (linesT ((splitL s).take (n - 1)) ++ (y ++ 10 :: more)).length ≤ 4001 ∧ scriptS (linesT ((splitL s).take (n - 1)) ++ (y ++ 10 :: more)) = ([], n, e)) := by
  obtain ⟨D, y, R, h1, h2, h3, h4, h5⟩ := script_bad h he (by omega)
  have ht : (splitL s).take (n - 1) = D := by rw [h1, h5, show 1 + D.length - 1 = D.length by omega, List.take_left]
  have hlen : (splitL s).length = D.length + (R.length + 1) := by rw [h1]; simp
  have hD3 : (linesT D).length ≤ s.length := by
    obtain ⟨z, g1, g2⟩ := splitL_text s
    have hpre : D <+: (splitL s).dropLast := by
      rw [h1, List.dropLast_append_of_ne_nil (by simp)]
      exact List.prefix_append _ _
    obtain ⟨E, hE⟩ := hpre
    have := congrArg List.length g2
    rw [List.length_append, ← hE] at this
    have h9 : linesT (D ++ E) = linesT D ++ linesT E := by simp [linesT]
    rw [h9, List.length_append] at this
    omega
  rw [ht]
  refine ⟨by omega, by omega, by omega, ⟨_, script_lines h2 (by omega)⟩, fun hlt => ?_⟩
  have hR : R ≠ [] := by intro e; rw [e] at hlen; simp at hlen; omega
  have hb : badE y = e := by
    rcases h3 with h3 | h3
    · exact absurd h3.1 hR
    · exact h3.2
  have hmem : y ∈ splitL s := by rw [h1]; simp
  have hyn := splitL_mem s y hmem
  have hyl : (linesT D).length + y.length ≤ s.length := by
    obtain ⟨z, g1, g2⟩ := splitL_text s
    have hdl : (splitL s).dropLast = D ++ (y :: R.dropLast) := by
      rw [h1, List.dropLast_append_of_ne_nil (by simp), List.dropLast_cons_of_ne_nil hR]
    have := congrArg List.length g2
    rw [List.length_append, hdl] at this
    have h9 : linesT (D ++ y :: R.dropLast) = linesT D ++ (y ++ [10] ++ linesT R.dropLast) := by simp [linesT]
    rw [h9] at this
    simp only [List.length_append] at this
    omega
  have hle : (linesT D ++ (y ++ 10 :: more)).length ≤ 4001 := by
    simp only [List.length_append, List.length_cons]; omega
  refine ⟨y, by rw [h1, h5, show 1 + D.length - 1 = D.length by omega]; simp, hle, ?_⟩
  unfold scriptS
  rw [if_neg (by omega), splitL_join D _ (good_no h2), splitL_app hyn, goS_good D 1 [] h2 (by simp)]
  unfold goS
  rw [if_neg (splitL_ne more), if_pos (by rw [hb]; exact he), hb, h5]
/-- The law ScriptJoins. -/
theorem joins_plain {s t : Str} {cs ds : List (Nat × Cm)} {n m : Nat} {e : Int} (h : scriptS s = (cs, n, 0)) (h' : scriptS t = (ds, m, e)) (hs : s.length ≤ 2000) (ht : t.length ≤ 2000) :
    1 ≤ (splitL s).length ∧ (s ++ t).length ≤ 4000 ∧ (e ≠ 0 → scriptS (s ++ t) = ([], (splitL s).length - 1 + m, e)) ∧ (e = 0 → scriptS (s ++ t) = (cs ++ ds.map (fun x => (x.1 + ((splitL s).length - 1), x.2)), 0, 0)) := by
  obtain ⟨D, h1, h2, h3, h4, h5, h6⟩ := script_ok h
  have hb : (splitL s).length - 1 = D.length := by rw [h1]; simp
  have hst : splitL (s ++ t) = D ++ splitL t := by
    have := splitL_join D t (good_no h3)
    rw [← h2] at this
    exact this
  have hle : (s ++ t).length ≤ 4000 := by rw [List.length_append]; omega
  have hgo : scriptS (s ++ t) = goS (1 + D.length) (cmdsOf 1 D) (splitL t) := by
    unfold scriptS
    rw [if_neg (by omega), hst, goS_good D 1 [] h3 (splitL_ne t)]; simp
  rw [hb, hgo]
  refine ⟨by rw [h1]; simp, hle, fun he => ?_, fun he => ?_⟩
  · unfold scriptS at h'
    rw [if_neg (by omega)] at h'
    rcases goS_ways (splitL t) (splitL_ne t) with ⟨E, _, _, g3⟩ | ⟨E, z, R, e', _, _, _, _, g5⟩
    · rw [g3] at h'
      exact absurd (congrArg (fun x : List (Nat × Cm) × Nat × Int => x.2.2) h').symm he
    · rw [g5] at h' ⊢
      have e2 := congrArg (fun x : List (Nat × Cm) × Nat × Int => x.2.1) h'
      have e3 := congrArg (fun x : List (Nat × Cm) × Nat × Int => x.2.2) h'
      simp only at e2 e3
      rw [e3, ← e2]
      congr 2; omega
  · subst he
    obtain ⟨E, g1, g2, g3, g4, g5, g6⟩ := script_ok h'
    rw [g1, goS_good E _ _ g3 (by simp), goS_end, h4, g4]
    have := cmdsOf_shift D.length E 1
    rw [this]
/-- The law ScriptTexts: a line and its command. -/
theorem good_line {y : Str} (h : badE y = 0) (hb : blankB y = false) : textC (lineS y).1 = y ++ [10] ∧ CmOk (lineS y).1 := by
  unfold badE at h
  split at h
  · exact absurd h (by decide)
  rename_i hp
  rw [if_neg (by rw [hb]; decide)] at h
  exact line_back (by simpa using hp) (Prod.ext rfl h)
end

/-! ### Cm4 -/
section

/-- The lines behind a line that is under way. -/
def linGo (cur : Str) : Str → List Str
  | [] => [cur]
  | x :: l => if x = 10 then cur :: linGo [] l else linGo (cur ++ [x]) l
theorem linGo_split : ∀ (l cur : Str), ∃ y r, splitL l = y :: r ∧ linGo cur l = (cur ++ y) :: r
  | [], cur => ⟨[], [], rfl, by simp [linGo]⟩
  | x :: l, cur => by
    by_cases hx : x = 10
    · obtain ⟨y, r, h1, h2⟩ := linGo_split l []
      refine ⟨[], splitL l, by rw [hx]; exact splitL_lf l, ?_⟩
      unfold linGo
      rw [if_pos hx, h2, h1]
      simp
    · obtain ⟨y, r, h1, h2⟩ := linGo_split l (cur ++ [x])
      refine ⟨x :: y, r, splitL_other hx h1, ?_⟩
      unfold linGo
      rw [if_neg hx, h2]
      simp
theorem linGo_nil (l : Str) : linGo [] l = splitL l := by
  obtain ⟨y, r, h1, h2⟩ := linGo_split l []
  rw [h2, h1]; rfl
theorem linGo_lf {l : Str} {k : Nat} (h : k < l.length) (h1 : l[k] = 10) (cur : Str) : linGo cur (l.drop k) = cur :: linGo [] (l.drop (k + 1)) := by
  rw [List.drop_eq_getElem_cons h, h1]
  conv => lhs; unfold linGo
  rw [if_pos rfl]
theorem linGo_on {l : Str} {k : Nat} (h : k < l.length) (h1 : l[k] ≠ 10) (cur : Str) : linGo cur (l.drop k) = linGo (cur ++ [l[k]]) (l.drop (k + 1)) := by
  rw [List.drop_eq_getElem_cons h]
  conv => lhs; unfold linGo
  rw [if_neg h1]
/-- The loop of ScriptTexts: behind n lines, m commands. -/
theorem cmdsOf_app : ∀ (D E : List Str) (n : Nat), cmdsOf n (D ++ E) = cmdsOf n D ++ cmdsOf (n + D.length) E
  | [], E, n => by simp [cmdsOf]
  | y :: D, E, n => by
    rw [List.cons_append, cmdsOf_cons, cmdsOf_cons, cmdsOf_app D E (n + 1), List.append_assoc, List.length_cons, show n + 1 + D.length = n + (D.length + 1) by omega]
theorem cmdsOf_take {D : List Str} {k : Nat} (h : k < D.length) : cmdsOf 1 (D.take (k + 1)) = cmdsOf 1 (D.take k) ++ (if blankB D[k] = true then [] else [(k + 1, (lineS D[k]).1)]) := by
  rw [List.take_succ_eq_append_getElem h, cmdsOf_app]
  have : (D.take k).length = k := by simp; omega
  rw [this, cmdsOf_cons, show 1 + k = k + 1 by omega]
  simp [cmdsOf]
theorem cmdsOf_at {D : List Str} {k : Nat} (h : k < D.length) (hb : blankB D[k] = false) : (cmdsOf 1 D)[(cmdsOf 1 (D.take k)).length]? = some (k + 1, (lineS D[k]).1) := by
  have h1 : D = D.take (k + 1) ++ D.drop (k + 1) := (List.take_append_drop (k + 1) D).symm
  have h2 : cmdsOf 1 D = cmdsOf 1 (D.take (k + 1)) ++ cmdsOf (1 + (D.take (k + 1)).length) (D.drop (k + 1)) := by
    conv => lhs; rw [h1]
    exact cmdsOf_app _ _ _
  rw [h2, cmdsOf_take h, hb, List.append_assoc, List.getElem?_append_right (Nat.le_refl _)]
  simp
end

/-! ### Sk11 -/
section
open Go.RowKit

theorem infoCmd3 : (Tryz.prog.info? 35).map (fun i => (i.zero, i.size, i.bytes)) = some (some (.agg #[.int .i64 0, .int .i64 0, .string ⟨#[]⟩, .slice none 0 0, .slice none 0 0, .string ⟨#[]⟩]), 6, 96) := by kernel_rfl
def cmC (l : List (Nat × Cm)) (us vs : List Value) : List Value := (l.zip (us.zip vs)).flatMap fun p => [.int .i64 p.1.1, .int .i64 p.1.2.op, .string ⟨p.1.2.name.toArray⟩, p.2.1, p.2.2, .string ⟨p.1.2.query.toArray⟩]
def OwnCms (w : World) (B : Nat) (u : Value) (l : List (Nat × Cm)) : Prop := ∃ us vs : List Value, us.length = l.length ∧ vs.length = l.length ∧ w.ownsRow B 35 6 u l.length (cmC l us vs) ∧ ∀ i (_ : i < us.length) (_ : i < vs.length) (_ : i < l.length), OwnCm w B us[i] vs[i] l[i].2
section
variable {w w' : World} {B : Nat} {u : Value} {l : List (Nat × Cm)}
theorem OwnCms.nil : OwnCms w B (.slice none 0 0) [] := ⟨[], [], rfl, rfl, World.ownsRow_nil _ _ _ _, fun i hi => absurd hi (by simp)⟩
theorem OwnCms.below (h : OwnCms w B u l) (hb : Below w.heap.size w w') : OwnCms w' B u l :=
  let ⟨us, vs, h0, h1, h2, h3⟩ := h; ⟨us, vs, h0, h1, own_belowS h2 hb, fun i a b c => (h3 i a b c).below hb⟩
theorem OwnCm.kept {c : Cm} {u v : Value} (h : OwnCm w B u v c) {B2 e2 z2 n2 : Nat} {v2 : Value} {x2 : List Value} (h2 : w.ownsRow B2 e2 z2 v2 n2 x2) (he : e2 ≠ 2 ∧ e2 ≠ 67) (hg : w.grownBy w' v2.ownBlock) : OwnCm w' B u v c :=
  ⟨h.1.kept hg (ren_apart h.1 h2 (fun e => he.1 e.symm)), h.2.kept hg (ren_apart h.2 h2 (fun e => he.2 e.symm))⟩
theorem cmC_push {us vs : List Value} (h0 : us.length = l.length) (h1 : vs.length = l.length) (n : Nat) (c : Cm) (a b : Value) : cmC (l ++ [(n, c)]) (us ++ [a]) (vs ++ [b]) = cmC l us vs ++ [.int .i64 n, .int .i64 c.op, .string ⟨c.name.toArray⟩, a, b, .string ⟨c.query.toArray⟩] := by
  unfold cmC
  rw [List.zip_append (h0.trans h1.symm), List.zip_append (by simp [h0, h1]), List.flatMap_append]; rfl
theorem OwnCms.push {us vs : List Value} {c : Cm} {a b v8 : Value} {n : Nat} (h0 : us.length = l.length) (h1 : vs.length = l.length) (h2 : w.ownsRow B 35 6 u l.length (cmC l us vs))
    (h3 : ∀ i (_ : i < us.length) (_ : i < vs.length) (_ : i < l.length), OwnCm w B us[i] vs[i] l[i].2) (hc : OwnCm w B a b c) (hg : w.grownBy w' u.ownBlock)
    (h8 : w'.ownsRow B 35 6 v8 (l.length + 1) (cmC l us vs ++ [.int .i64 n, .int .i64 c.op, .string ⟨c.name.toArray⟩, a, b, .string ⟨c.query.toArray⟩])) : OwnCms w' B v8 (l ++ [(n, c)]) := by
  refine ⟨us ++ [a], vs ++ [b], by simp [h0], by simp [h1], by rw [cmC_push h0 h1, List.length_append]; exact h8, fun i hi hi2 hi' => ?_⟩
  by_cases hh : i < us.length
  · rw [List.getElem_append_left hh, List.getElem_append_left (show i < vs.length by omega)]
    have e : (l ++ [(n, c)])[i] = l[i]'(by omega) := List.getElem_append_left (by omega)
    rw [e]
    exact (h3 i hh (by omega) (by omega)).kept h2 (by decide) hg
  · have : i = us.length := by simp at hi; omega
    subst this
    have e : (l ++ [(n, c)])[us.length]'hi' = (n, c) := by simp [h0]
    have e2 : (vs ++ [b])[us.length]'hi2 = b := by simp [h0, h1]
    rw [e, e2]
    simp only [List.getElem_concat_length]
    exact hc.kept h2 (by decide) hg
theorem OwnCms.empty {g : Nat} (hB : B ≤ g) (h : w.heap[g]? = some (.cells #[] 35)) : OwnCms w B (.slice (some ⟨g, 0, none⟩) 0 0) [] := ⟨[], [], rfl, rfl, own_e0 hB h, fun i hi => absurd hi (by simp)⟩
/-- Commands, read. -/
def CmsAt (w : World) (A : Option Addr) (l : List (Nat × Cm)) : Prop :=
  0 < l.length → ∃ b o, A = some ⟨b, o, none⟩ ∧ ∀ i (h : i < l.length), ∃ T c R cr, w.cell? ⟨b, o + i * 6, none⟩ = some (.int .i64 l[i].1) ∧ w.cell? ⟨b, o + i * 6 + 1, none⟩ = some (.int .i64 l[i].2.op) ∧ w.cell? ⟨b, o + i * 6 + 2, none⟩ = some (.string ⟨l[i].2.name.toArray⟩) ∧ w.cell? ⟨b, o + i * 6 + 3, none⟩ = some (.slice T l[i].2.nums.length c) ∧ w.cell? ⟨b, o + i * 6 + 4, none⟩ = some (.slice R l[i].2.row.length cr) ∧ w.cell? ⟨b, o + i * 6 + 5, none⟩ = some (.string ⟨l[i].2.query.toArray⟩) ∧ IntsAt w T l[i].2.nums ∧ l[i].2.nums.length ≤ c ∧ RowAt w R l[i].2.row ∧ l[i].2.row.length ≤ cr
theorem CmsAt.below {A : Option Addr} (h : CmsAt w A l) (hb : Below w.heap.size w w') : CmsAt w' A l := fun hp => by
  obtain ⟨b, o, e, hc⟩ := h hp
  refine ⟨b, o, e, fun i hi => ?_⟩
  obtain ⟨T, c, R, cr, h0, h1, h2, h3, h4, h5, h6, h7, h8, h9⟩ := hc i hi
  exact ⟨T, c, R, cr, cell_keep hb h0, cell_keep hb h1, cell_keep hb h2, cell_keep hb h3, cell_keep hb h4, cell_keep hb h5, h6.below hb, h7, h8.below hb, h9⟩
theorem own_ints64 {xs : List Int} (h : w.ownsRow B 2 1 u xs.length (xs.map (Value.int .i64))) : ∃ T c, u = .slice T xs.length c ∧ IntsAt w T xs ∧ xs.length ≤ c := by
  rcases h.2 with ⟨h1, h0⟩ | ⟨g, cap, cur, h1, hB, hh, hn, hm, hs, ht⟩
  · exact ⟨none, 0, by rw [h1, h0], fun hp => absurd hp (by omega), by omega⟩
  · refine ⟨some ⟨g, 0, none⟩, cap, h1, fun hp => ⟨g, 0, rfl, fun i hi => ?_⟩, hn⟩
    rw [box_cell hh, Nat.zero_add]
    rw [Nat.mul_one] at ht
    have h2 : (cur.toList.take xs.length)[i]? = some (.int .i64 xs[i]) := by rw [ht, List.getElem?_map, List.getElem?_eq_getElem hi]; rfl
    rw [List.getElem?_take_of_lt hi] at h2
    simpa using h2
theorem own_cms (h : OwnCms w B u l) : ∃ A c, u = .slice A l.length c ∧ CmsAt w A l ∧ l.length ≤ c := by
  obtain ⟨us, vs, h0, h1, h2, h3⟩ := h
  have hz : (l.zip (us.zip vs)).length = l.length := by simp [h0, h1]
  rw [← hz] at h2
  obtain ⟨A, c, e1, h4, h5⟩ := ren_gen (f := fun p : (Nat × Cm) × Value × Value => [Value.int .i64 p.1.1, .int .i64 p.1.2.op, .string ⟨p.1.2.name.toArray⟩, p.2.1, p.2.2, .string ⟨p.1.2.query.toArray⟩]) (k := 6) (fun _ => rfl) h2
  rw [hz] at e1 h4
  refine ⟨A, c, e1, fun hp => ?_, by omega⟩
  obtain ⟨b, o, e, hc⟩ := h5 (by omega)
  refine ⟨b, o, e, fun i hi => ?_⟩
  obtain ⟨g1, g2⟩ := h3 i (by omega) (by omega) hi
  obtain ⟨T, ct, eu, ht, hlt⟩ := own_ints64 g1
  obtain ⟨R, cr, eu2, hr, hlr⟩ := own_rowc g2
  have hi2 : i < (l.zip (us.zip vs)).length := by omega
  have key : ∀ j v, ([Value.int .i64 l[i].1, .int .i64 l[i].2.op, .string ⟨l[i].2.name.toArray⟩, us[i]'(by omega), vs[i]'(by omega), .string ⟨l[i].2.query.toArray⟩] : List Value)[j]? = some v → w.cell? ⟨b, o + i * 6 + j, none⟩ = some v := fun j v hj => by
    have := hc i hi2 j v (by rw [List.getElem_zip, List.getElem_zip]; exact hj)
    exact this
  exact ⟨T, ct, R, cr, key 0 _ rfl, key 1 _ rfl, key 2 _ rfl, key 3 _ (by rw [← eu]; rfl), key 4 _ (by rw [← eu2]; rfl), key 5 _ rfl, ht, hlt, hr, hlr⟩
end
/-- What Parse answers. -/
def RetPs (w : World) (x : List (Nat × Cm) × Nat × Int) (e : Ending) (w' : World) : Prop :=
  ∃ A c, e = .returned (.tuple #[.slice A x.1.length c, .int .i64 x.2.1, .int .i64 x.2.2]) ∧ OwnCms w' w.heap.size (.slice A x.1.length c) x.1 ∧ x.1.length ≤ 70000 ∧ Below w.heap.size w w'
theorem retPs_bad {w w' : World} {n : Nat} {e : Int} (h : Below w.heap.size w w') : RetPs w ([], n, e) (.returned (.tuple #[.slice none 0 0, .int .i64 n, .int .i64 e])) w' := ⟨none, 0, rfl, OwnCms.nil, Nat.zero_le _, h⟩
section
variable {n : Nat} {acc : List (Nat × Cm)} {l a r : Str}
theorem goS_stop (h : cutL 10 l = (a, r, false)) (hl : l ≠ []) : goS n acc (splitL l) = ([], n, 15) := by
  rw [splitL_cut, h, if_neg (show ¬ (false = true) by decide)]
  unfold goS
  rw [if_pos rfl, if_neg hl]
theorem goS_bad {e : Int} (h : cutL 10 l = (a, r, true)) (he : badE a = e) (h0 : e ≠ 0) : goS n acc (splitL l) = ([], n, e) := by
  rw [splitL_cut, h, if_pos rfl]
  unfold goS
  rw [if_neg (splitL_ne r), he, if_pos h0]
theorem goS_next (h : cutL 10 l = (a, r, true)) (he : badE a = 0) : goS n acc (splitL l) = goS (n + 1) (acc ++ (if blankB a = true then [] else [(n, (lineS a).1)])) (splitL r) := by
  rw [splitL_cut, h, if_pos rfl]
  conv => lhs; unfold goS
  rw [if_neg (splitL_ne r), he, if_neg (by decide)]
end
theorem size_l (l : Str) : (⟨l.toArray⟩ : ByteArray).size = l.length := by simp [ByteArray.size]
theorem blank_of {W : ByteArray} : blankB W.data.toList = (W.toList.isEmpty || W.data.toList.getD 0 0 == 35) := by unfold blankB; rw [Lib.toList_data]

set_option maxRecDepth 100000 in
set_option maxHeartbeats 8000000 in
theorem scr_parse (s : ByteArray) (w : World) (hE : EnvS w) {x : List (Nat × Cm) × Nat × Int} (hx : scriptS s.data.toList = x) :
    Calls Tryz.prog 8 #[.string s] w (RetPs w x) := by
  have hls := len_b s
  unfold scriptS at hx
  rw [hls] at hx
  by_cases hbig : 65536 < s.size
  · rw [if_pos hbig] at hx
    subst hx
    have i1 : (65536 : Int) < s.size := by omega
    clear hE hls hbig
    go_enter Tryz.func8, Tryz.ntmps8
    go_wp2
    go_ret3
    exact retPs_bad (Below.refl _ _)
  · rw [if_neg hbig] at hx
    obtain ⟨i0, hi0, hz0, hz1, hz2⟩ := info_parts infoCmd3
    have i1 : ¬ (65536 : Int) < s.size := by omega
    have hsz : s.size ≤ 65536 := by omega
    have HX := hid hx
    have k0 := below_one w (.cells #[] 35)
    have HO0 : Hid (OwnCms (w.alloc (.cells #[] 35)) w.heap.size (.slice (some ⟨w.heap.size, 0, none⟩) 0 0) []) := hid (OwnCms.empty (Nat.le_refl _) (heap_alloc_new w _))
    have HE := hid hE
    clear hx hbig hE hls
    go_enter Tryz.func8, Tryz.ntmps8
    go_wp2
    go_loopw [0, 5, 6] (fun r u i wr => ∃ (R : ByteArray) (n : Nat) (acc : List (Nat × Cm)), r = .string R ∧ i = .int .i64 n ∧ n + R.size ≤ s.size + 1 ∧ acc.length + R.size ≤ s.size ∧ Hid (OwnCms wr w.heap.size u acc) ∧ Hid (goS n acc (splitL R.data.toList) = x) ∧ Below w.heap.size w wr) (fun r _ _ _ => (bytesOf r).size)
    case atStart => exact ⟨s, 1, [], rfl, rfl, by omega, by simp, HO0, HX, k0⟩
    case round =>
      obtain ⟨R, n, acc, rfl, rfl, hn, hacc, HO, HK, hbel⟩ := hrel
      clear HX HO0 k0
      have tl : R.toList = R.data.toList := Lib.toList_data _
      have hlR := hid (len_b R)
      cases hRe : R.toList.isEmpty
      · have hRne : R.data.toList ≠ [] := by intro e; rw [tl, e] at hRe; cases hRe
        obtain ⟨a, r, m, hc⟩ : ∃ a r m, cutL 10 R.data.toList = (a, r, m) := ⟨_, _, _, rfl⟩
        have hcl := cutL_len 10 R.data.toList
        rw [hc, hlR.out] at hcl
        simp only at hcl
        have HC := hid (fun W => cut_lf R W (by omega) hc)
        cases m with
        | false =>
          have hxx := HK.out.symm.trans (goS_stop hc hRne)
          subst hxx
          clear hc hRne tl HK HO
          go_wp2_with fail
          refine (HC.out _).mono ?_
          rintro e w1 ⟨rfl, b1⟩
          have K1 := hid (hbel.trans (b1.mono hbel.size))
          clear HC b1
          go_wp2
          go_ret3
          exact retPs_bad K1.out
        | true =>
          obtain ⟨e, he⟩ : ∃ e, badE a = e := ⟨_, rfl⟩
          obtain ⟨A, hA⟩ : ∃ A : ByteArray, (⟨a.toArray⟩ : ByteArray) = A := ⟨_, rfl⟩
          obtain ⟨R2, hR2⟩ : ∃ A : ByteArray, (⟨r.toArray⟩ : ByteArray) = A := ⟨_, rfl⟩
          have hAl : A.data.toList = a := by rw [← hA]
          have hR2l : R2.data.toList = r := by rw [← hR2]
          have hAs : A.size ≤ R.size := by rw [← hA, size_l]; exact hcl.2.2
          have hR2s : R2.size < R.size := by rw [← hR2, size_l]; exact hcl.2.1 rfl
          rw [hA, hR2] at HC
          obtain ⟨p, hp⟩ : ∃ p, A.data.toList.all prnB = p := ⟨_, rfl⟩
          have HPr := hid (fun W => scr_printable A W (by omega) hp)
          cases p with
          | false =>
            have he15 : badE a = 15 := by unfold badE; rw [← hAl, if_pos hp]
            have hxx := HK.out.symm.trans (goS_bad hc he15 (by decide))
            subst hxx
            clear hc hRne tl HK HO hA hR2 hAl hR2l hp he he15
            go_wp2_with fail
            refine (HC.out _).mono ?_
            rintro e w1 ⟨rfl, b1⟩
            have K1 := hid (hbel.trans (b1.mono hbel.size))
            clear HC b1
            go_wp2_with fail
            refine (HPr.out _).mono ?_
            rintro e w2 ⟨rfl, rfl⟩
            clear HPr
            go_wp2
            go_ret3
            exact retPs_bad K1.out
          | true =>
            have hpa : ¬ (a.all prnB = false) := by rw [← hAl, hp]; decide
            cases hb : blankB a with
            | true =>
              have he0 : badE a = 0 := by unfold badE; rw [if_neg hpa, if_pos hb]
              have HK2 := hid (HK.out.symm.trans (goS_next hc he0)).symm
              rw [hb, if_pos rfl, List.append_nil, ← hR2l] at HK2
              have hcase : A.toList.isEmpty = true ∨ (A.toList.isEmpty = false ∧ ∃ h : 0 < A.size, (((A[0]'h).toNat : Int) == 35) = true) := by
                rw [← hAl, blank_of] at hb
                cases hE0 : A.toList.isEmpty with
                | true => exact .inl rfl
                | false =>
                  right
                  rw [hE0, Bool.false_or] at hb
                  have hpos : 0 < A.size := by
                    have h1 : A.data.toList ≠ [] := by intro e; rw [Lib.toList_data, e] at hE0; cases hE0
                    have := List.length_pos_iff.2 h1; rw [len_b] at this; exact this
                  refine ⟨rfl, hpos, ?_⟩
                  rw [getD_of hpos] at hb
                  rw [beq_iff_eq.1 hb]; rfl
              clear hc hRne tl HK hA hR2 hAl hR2l hp he he0 hpa hb
              rcases hcase with hE0 | ⟨hE0, hpos, h35⟩
              all_goals
                go_wp2_with fail
                refine (HC.out _).mono ?_
                rintro e w1 ⟨rfl, b1⟩
                have K1 := hid (hbel.trans (b1.mono hbel.size))
                have HO1 := hid (HO.out.below b1)
                clear HC b1 HO
                go_wp2_with fail
                refine (HPr.out _).mono ?_
                rintro e w2 ⟨rfl, rfl⟩
                clear HPr
                go_wp2
                go_roundw
                case rel => exact ⟨R2, n + 1, acc, rfl, by go_num, by omega, by omega, HO1, HK2, K1.out⟩
                case measure => simp [bytesOf]; omega
            | false =>
              obtain ⟨⟨c, e2⟩, hl⟩ : ∃ y, lineS a = y := ⟨_, rfl⟩
              have he0 : badE a = e2 := by unfold badE; rw [if_neg hpa, if_neg (by rw [hb]; decide), hl]
              have hcase : A.toList.isEmpty = false ∧ ∃ h : 0 < A.size, (((A[0]'h).toNat : Int) == 35) = false := by
                rw [← hAl, blank_of, Bool.or_eq_false_iff] at hb
                have hpos : 0 < A.size := by
                  have h1 : A.data.toList ≠ [] := by intro e; rw [Lib.toList_data, e] at hb; cases hb.1
                  have := List.length_pos_iff.2 h1; rw [len_b] at this; exact this
                refine ⟨hb.1, hpos, ?_⟩
                have h2 := hb.2
                rw [getD_of hpos] at h2
                exact ne8 (beq_eq_false_iff_ne.1 h2) rfl
              obtain ⟨hE0, hpos, h35⟩ := hcase
              have HLi := hid (fun W (k : Below w.heap.size w W) => scr_line A W (HE.out.below k) (by omega) (x := (c, e2)) (by rw [hAl]; exact hl))
              by_cases h0 : e2 = 0
              · subst h0
                have HK2 := hid (HK.out.symm.trans (goS_next hc he0)).symm
                rw [hb, if_neg (by decide), hl, ← hR2l] at HK2
                clear hc hRne tl HK hA hR2 hAl hR2l hp he he0 hpa hb hl
                go_wp2_with fail
                refine (HC.out _).mono ?_
                rintro e w1 ⟨rfl, b1⟩
                have K1 := hid (hbel.trans (b1.mono hbel.size))
                have HO1 := hid (HO.out.below b1)
                have HL1 := hid (HLi.out w1 K1.out)
                clear HC b1 HO HLi
                go_wp2_with fail
                refine (HPr.out _).mono ?_
                rintro e w2 ⟨rfl, rfl⟩
                clear HPr
                go_wp2_with fail
                refine HL1.out.mono ?_
                rintro e w2 ⟨u2, v2, rfl, ho2, hn2, b2⟩
                have HOc := hid (ho2.mono K1.out.size)
                have HO2 := hid (HO1.out.below b2)
                have K2 := hid (K1.out.trans (b2.mono K1.out.size))
                obtain ⟨Au, cu, rfl⟩ := own_sl HOc.out.1
                obtain ⟨Av, cv, rfl, -, -⟩ := own_rowc HOc.out.2
                have k3 := below_one w2 (.cells #[.int .i64 n, .int .i64 c.op, .string ⟨c.name.toArray⟩, .slice Au c.nums.length cu, .slice Av c.row.length cv, .string ⟨c.query.toArray⟩] 35)
                have HO3 := hid (HO2.out.below k3)
                have HOc3 := hid (HOc.out.below k3)
                have K3 := hid (K2.out.trans (k3.mono K2.out.size))
                have hw3 := K3.out.size
                obtain ⟨us, vs, q0, q1, q2, q3⟩ := HO3.out
                have HQ2 := hid q2
                have HPush := hid (fun (W' : World) (v8 : Value) hg h8 => OwnCms.push (w' := W') (v8 := v8) (n := n) q0 q1 q2 q3 HOc3.out hg h8)
                have hal : acc.length ≤ 70000 := by omega
                clear HL1 b2 ho2 HO1 HO2 HO3 HOc k3 q0 q1 q2 q3
                go_wp2_with (first | (at_builtin; refine wpList_append_new2 Tryz.underlying23 hi0 hz0 hz1 hz2 rfl (by decide) (by decide) rfl rfl rfl HQ2.out rfl (by simp) rfl rfl (by omega) hw3 ?_; intro v8 w8 hown8 hg8; have HF := hid (HPush.out w8 v8 hg8 hown8); have KF := hid (K3.out.trans (grown_below HQ2.out hg8 hw3)); clear hown8 hg8) | fail)
                go_roundw
                case rel => exact ⟨R2, n + 1, acc ++ [(n, c)], rfl, by go_num, by omega, by rw [List.length_append]; simp only [List.length_cons, List.length_nil]; omega, HF, HK2, KF.out⟩
                case measure => simp [bytesOf]; omega
              · have hxx := HK.out.symm.trans (goS_bad hc he0 h0)
                subst hxx
                have hb0 : (e2 != 0) = true := by simpa using h0
                clear hc hRne tl HK hA hR2 hAl hR2l hp he he0 hpa hb hl HO h0
                go_wp2_with fail
                refine (HC.out _).mono ?_
                rintro e w1 ⟨rfl, b1⟩
                have K1 := hid (hbel.trans (b1.mono hbel.size))
                have HL1 := hid (HLi.out w1 K1.out)
                clear HC b1 HLi
                go_wp2_with fail
                refine (HPr.out _).mono ?_
                rintro e w2 ⟨rfl, rfl⟩
                clear HPr
                go_wp2_with fail
                refine HL1.out.mono ?_
                rintro e w2 ⟨u2, v2, rfl, ho2, hn2, b2⟩
                have K2 := hid (K1.out.trans (b2.mono K1.out.size))
                clear HL1 b2
                have k3 := below_one w2 (.cells (cmA 0 c u2 v2) 35)
                obtain ⟨Au, cu, rfl⟩ := own_sl ho2.1
                obtain ⟨Av, cv, rfl, -, -⟩ := own_rowc ho2.2
                go_wp2
                go_ret3
                exact retPs_bad (K2.out.trans (k3.mono K2.out.size))
      · have hRn : R.data.toList = [] := by rw [tl] at hRe; simpa using hRe
        have hxx : x = (acc, 0, 0) := by rw [← HK.out, hRn]; exact goS_end n acc
        subst hxx
        obtain ⟨Au, cu, rfl, -, -⟩ := own_cms HO.out
        have hal : acc.length ≤ 70000 := by omega
        clear HK tl hRn
        go_wp2
        go_ret3
        exact ⟨Au, cu, rfl, HO.out, hal, hbel⟩
end

/-! ### Rw2 -/
section
open Go.RowKit

def strV' (x : List UInt8) : Value := .string ⟨x.toArray⟩
/-- A call that returns strings of its own. -/
def RetStrs (w : World) (X : List (List UInt8)) (e : Ending) (w' : World) : Prop :=
  ∃ v, e = .returned v ∧ w'.ownsRow w.heap.size 9 1 v X.length (X.map strV') ∧ Below w.heap.size w w'

theorem own_one (w : World) (x : List UInt8) : (w.alloc (.cells #[strV' x] 9)).ownsRow w.heap.size 9 1 (.slice (some ⟨w.heap.size, 0, none⟩) 1 1) 1 [strV' x] :=
  ⟨rfl, .inr ⟨w.heap.size, 1, #[strV' x], rfl, Nat.le_refl _, heap_alloc_new w _, Nat.le_refl _, by unfold maxLen; omega, rfl, rfl⟩⟩
theorem set_last (ps : List (List UInt8)) (cur y : List UInt8) : ((ps ++ [cur]).map strV').set ps.length (strV' y) = (ps ++ [y]).map strV' := by
  rw [List.map_append, List.set_append_right _ _ (by simp)]
  simp
theorem own_snoc {w : World} {B : Nat} {v : Value} {ps : List (List UInt8)} {cur : List UInt8} (h : w.ownsRow B 9 1 v (ps.length + 1 + 1) ((ps ++ [cur]).map strV' ++ [.string ⟨#[]⟩])) : w.ownsRow B 9 1 v ((ps ++ [cur]).length + 1) ((ps ++ [cur] ++ [[]]).map strV') := by
  have e : (ps ++ [cur]).map strV' ++ [.string ⟨#[]⟩] = (ps ++ [cur] ++ [[]]).map strV' := by
    simp [strV']
  rw [← e]
  simpa using h
theorem own_slice {w : World} {B : Nat} {e : TypeId} {v : Value} {n size : Nat} {xs : List Value} (h : w.ownsRow B e size v (n + 1) xs) : ∃ g cap, v = .slice (some ⟨g, 0, none⟩) (n + 1) cap ∧ B ≤ g ∧ n + 1 ≤ cap := by
  rcases h.2 with ⟨_, h0⟩ | ⟨g, cap, cur, hv, hB, hh, hn, hm, hcs, ht⟩
  · omega
  · exact ⟨g, cap, hv, hB, hn⟩

theorem split_comma {l : List UInt8} {k : Nat} (h : k + 1 < l.length) (h1 : l[k] = 44) (h2 : l[k + 1] = 32) (e : Bool) (cur : List UInt8) : splitGo false e cur (l.drop k) = cur :: splitGo false e [] (l.drop (k + 2)) := by
  have hr : l.drop (k + 1) ≠ [] := by
    intro e
    have := congrArg List.length e
    simp at this; omega
  have hg : (l.drop (k + 1)).getD 0 0 = 32 := by
    rw [List.getD_eq_getElem?_getD, List.getElem?_drop, Nat.add_zero, List.getElem?_eq_getElem h]; exact h2
  have hd : l.drop k = l[k] :: l.drop (k + 1) := List.drop_eq_getElem_cons (by omega)
  rw [hd, splitGo, if_pos ⟨rfl, h1, hg, hr⟩, List.drop_drop]
theorem split_on {l : List UInt8} {k : Nat} (h : k < l.length) (q e : Bool) (cur : List UInt8) (hn : ¬ (q = false ∧ l[k] = 44 ∧ ∃ h2 : k + 1 < l.length, l[k + 1] = 32)) :
    splitGo q e cur (l.drop k) = splitGo (if l[k] = 34 ∧ e = false then !q else q) ((if l[k] = 34 ∧ e = false then !q else q) && (l[k] == 92 && !e)) (cur ++ [l[k]]) (l.drop (k + 1)) := by
  rw [List.drop_eq_getElem_cons h, splitGo, if_neg]
  rintro ⟨a, b, c, d⟩
  have h2 : k + 1 < l.length := by
    apply Classical.byContradiction
    intro hh
    exact d (List.drop_eq_nil_of_le (by omega))
  rw [List.drop_eq_getElem_cons h2] at c
  exact hn ⟨a, b, h2, c⟩
theorem split_on' {l : List UInt8} {k : Nat} (h : k < l.length) {c : UInt8} (hc : l[k] = c) (q e : Bool) (cur : List UInt8) (hn : ¬ (q = false ∧ c = 44 ∧ ∃ h2 : k + 1 < l.length, l[k + 1] = 32)) :
    splitGo q e cur (l.drop k) = splitGo (if c = 34 ∧ e = false then !q else q) ((if c = 34 ∧ e = false then !q else q) && (c == 92 && !e)) (cur ++ [c]) (l.drop (k + 1)) := by
  subst hc
  exact split_on h q e cur hn
theorem cat_one {s : ByteArray} {k : Nat} (h' : k < s.data.toList.length) {c : UInt8} (hc : s.data.toList[k] = c) (cur : List UInt8) : (⟨cur.toArray⟩ : ByteArray) ++ s.extract k (k + 1) = ⟨(cur ++ [c]).toArray⟩ := by
  subst hc
  refine ByteArray.ext (Array.toList_inj.1 ?_)
  simp only [ByteArray.data_append, Array.toList_append, ByteArray.data_extract, Array.toList_extract, List.extract]
  congr 1
  rw [show k + 1 - k = 1 by omega, List.drop_eq_getElem_cons h']; rfl

end
end Go.Proofs.YtjhnopnppimnhaaGreatDoor
