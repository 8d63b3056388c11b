/-
  PARTS of a claim, merged by segs.py: NwNe5, NwNe6, NwNe7, NwNe8, NwNe9, NwNe10.
-/
import Derived.Test.YtggfcdhkgldbfaaN42
import Derived.Test.YtggfcdhkgldbfaaN35
import Derived.Test.YtggfcdhkgldbfaaN32
import Derived.Test.YtggfcdhkgldbfaaN40
namespace Go.Proofs.Ytggfcdhkgldbfaa
set_option linter.unusedSimpArgs false
set_option linter.unusedVariables false

/-! ### NwNe5 -/
section
set_option linter.unusedSimpArgs false
open Go Go.Conc Go.RowKit Go.ConcR.Gen Cw

/-- The slots of the loop. -/
def SlE (b1 b2 eb n c j : Nat) (T : Array Value) : Prop := T.size = 28 ∧ T[1]? = some (yldF b1 b2) ∧ T[17]? = some (.slice (some ⟨eb, 0, none⟩) n c) ∧ T[18]? = some (.int .i64 n) ∧ T[19]? = some (.int .i64 j)
/-- What the nested task leans on besides: the cells of the inner events. -/
def RowIn (ex : Addr → Value → Prop) (eb : Nat) (E : List (Int × ByteArray)) : Prop := ∀ (k : Nat) (x : Int × ByteArray), E[k]? = some x → ex ⟨eb, k * 2, none⟩ (.int .i64 x.1) ∧ ex ⟨eb, k * 2 + 1, none⟩ (.string x.2)
def AtE0 (nv : Value) (S : List ByteArray) (r : Wk) (wg ev : Nat) (j b1 b2 : Nat) (ex : Addr → Value → Prop) (g : Goroutine) : Prop :=
  (j = 0 ∧ g = at1 wg r.bw r.bt ev r.bi r.bs r.cr b1 b2 (.iface 43 nv)) ∨
  (∃ j' s eb c T xv E, j = j' + 1 ∧ E.map (·.2) = S ∧ S[j']? = some s ∧ SlE b1 b2 eb S.length c j' T ∧ RowIn ex eb E ∧ g = atR r.bs r.cr r.cp b1 b2 ev r.bi s (fNe T (.inRegion opsE5 [3] :: todoE) :: [frR ev r.bi r.bs r.cr b1 b2 (.iface 43 nv) xv, fr3 wg r.bw r.bt ev r.bi r.bs (.iface 43 nv), bot]))
def nestT (W : World) (us : List Value) (L : List (List ByteArray)) (nv : Value) : Tasks where
  Λ := Nat
  M := Unit
  tv := fun k => if k = 0 then .iface 43 nv else .iface 44 (slK us k)
  l0 := fun _ => 0
  At := fun r wg ev k j b1 b2 ex g => if k = 0 then AtE0 nv (Sk L 0) r wg ev j b1 b2 ex g else (notesT W Vn us L).At r wg ev k j b1 b2 ex g
  Tm := (notesT W Vn us L).Tm
  next := (notesT W Vn us L).next
  rk := (notesT W Vn us L).rk
  Inv := fun _ _ _ _ => True
section
variable {W : World} {us : List Value} {L : List (List ByteArray)} {nv : Value}
/-- The same state, as the notes'. -/
def toN (s : Sst (nestT W us L nv)) : Sst (notesT W Vn us L) := ⟨s.en, s.loc, s.m, s.E⟩
theorem toN_step (k : Nat) (s : Sst (nestT W us L nv)) : toN ((nestT W us L nv).step k s) = (notesT W Vn us L).step k (toN s) := by
  cases he : s.en k with
  | true => rw [step_id he]; exact (step_id (t := notesT W Vn us L) (s := toN s) he).symm
  | false =>
    cases hx : (notesT W Vn us L).next k (s.loc k) s.m with
    | mk m' o =>
      have hx' : (nestT W us L nv).next k (s.loc k) s.m = (m', o) := hx
      have hx2 : (notesT W Vn us L).next k ((toN s).loc k) (toN s).m = (m', o) := hx
      have he2 : (toN s).en k = false := he
      unfold Tasks.step
      rw [he, he2, hx', hx2]
      cases o with
      | none => rfl
      | some y => rfl
theorem toN_itr (k : Nat) : ∀ (f : Nat) (s : Sst (nestT W us L nv)), toN (itr ((nestT W us L nv).step k) f s) = itr ((notesT W Vn us L).step k) f (toN s)
  | 0, _ => rfl
  | f + 1, s => by rw [itr, itr, toN_itr k f, toN_step]
theorem toN_drains : ∀ (l : List Nat) (s : Sst (nestT W us L nv)), toN ((nestT W us L nv).drains l s) = (notesT W Vn us L).drains l (toN s)
  | [], _ => rfl
  | k :: l, s => by
    show toN ((nestT W us L nv).drains l ((nestT W us L nv).drain k s)) = (notesT W Vn us L).drains l ((notesT W Vn us L).drain k (toN s))
    rw [toN_drains l]
    show (notesT W Vn us L).drains l (toN (itr _ _ s)) = _
    rw [toN_itr]
    rfl
theorem toN_picks : ∀ (l : List Nat) (s : Sst (nestT W us L nv)), toN (l.foldl (fun s k => (nestT W us L nv).step k s) s) = l.foldl (fun s k => (notesT W Vn us L).step k s) (toN s)
  | [], _ => rfl
  | k :: l, s => by rw [List.foldl_cons, List.foldl_cons, toN_picks l, toN_step]
theorem nest_fin (n : Nat) (ps : List Nat) : ((nestT W us L nv).fin () n ps).E = ((notesT W Vn us L).fin () n ps).E := by
  have h : toN ((nestT W us L nv).fin () n ps) = (notesT W Vn us L).fin () n ps := by
    unfold Tasks.fin
    rw [toN_drains, toN_picks]
    rfl
  rw [← h]
  rfl
theorem at0 {r : Wk} {wg ev j b1 b2 : Nat} {ex : Addr → Value → Prop} {g : Goroutine} (h : AtE0 nv (Sk L 0) r wg ev j b1 b2 ex g) : (nestT W us L nv).At r wg ev 0 j b1 b2 ex g := by
  show (if (0 : Nat) = 0 then AtE0 nv (Sk L 0) r wg ev j b1 b2 ex g else (notesT W Vn us L).At r wg ev 0 j b1 b2 ex g)
  rw [if_pos rfl]
  exact h
theorem evs_old {X : Cx} {V : Nat → Prop} {B ev : Nat} {Lw : Addr → Value → Prop} {Tk : World → Prop} (fx : Fx X V B Lw ev Tk) {E : List (Int × ByteArray)} (w₀ w : World) (h : ∃ u, Evs X V ev E u w₀) (_ : w₀.heap.size ≤ w.heap.size) (hs : ∀ b, b < w₀.heap.size → ¬ V b → w.heap[b]? = w₀.heap[b]?) : ∃ u, Evs X V ev E u w := by
  obtain ⟨u, h⟩ := h
  refine ⟨u, (hs _ (Array.getElem?_eq_some_iff.1 h.cell).1 fx.ok.nv).trans h.cell, ⟨h.row.1, ?_⟩, h.ok⟩
  rcases h.row.2 with hn | ⟨g, cap, cur, rfl, hb, hgg, rest⟩
  · exact .inl hn
  · exact .inr ⟨g, cap, cur, rfl, hb, (hs g (Array.getElem?_eq_some_iff.1 hgg).1 (h.ok g rfl).nv).trans hgg, rest⟩
set_option maxHeartbeats 1000000 in
/-- From the loop's head to the end of the turn. -/
theorem e_headN {X : Cx} {V : Nat → Prop} {B : Nat} {r : Wk} {wg ev b1 b2 eb c : Nat} {E Ei : List (Int × ByteArray)} {Wr : World → Prop} {ex : Addr → Value → Prop} (hEi : Ei.map (·.2) = Sk L 0) (hrow : RowIn ex eb Ei) (hn63 : (Sk L 0).length < 9223372036854775807)
    (fx : Fx X V B (LeanX r ev b1 b2 ((nestT W us L nv).tv 0) (0 : Nat) ex) ev (fun w => Wr w ∧ (nestT W us L nv).Tm () w)) (hE : (E.length + 1) * 1024 ≤ 140737488355328) (xv : Value) (j : Nat) (hj : j ≤ (Sk L 0).length) (T : Array Value) (hT : SlE b1 b2 eb (Sk L 0).length c j T) (w : World)
    (hF : WB X B (LeanX r ev b1 b2 ((nestT W us L nv).tv 0) (0 : Nat) ex) (fun w => Wr w ∧ (nestT W us L nv).Tm () w) w ∧ ∃ u, Evs X V ev E u w) :
    ∃ N, Goes Try.prog false (Ext V) (HDq X) ((nestT W us L nv).Turned X V B r wg ev 0 j () b1 b2 E Wr ex) N (headE T [frR ev r.bi r.bs r.cr b1 b2 ((nestT W us L nv).tv 0) xv, fr3 wg r.bw r.bt ev r.bi r.bs ((nestT W us L nv).tv 0), bot]) w ∧ N ≤ 200 := by
  have hq : ∀ w w', Ext V w w' → (∃ u, Evs X V ev E u w) → ∃ u, Evs X V ev E u w' := fun w w' r h => h.imp fun u hu => evs_rl fx w w' r hu
  have hTr : ∀ a b c, Ext V a b → Ext V b c → Ext V a c := fun _ _ _ h r => h.trans r
  obtain ⟨t0, t1, t17, t18, t19⟩ := hT
  by_cases hjn : j < (Sk L 0).length
  · have hlen : Ei.length = (Sk L 0).length := by rw [← hEi]; simp
    obtain ⟨x, hx⟩ : ∃ x, Ei[j]? = some x := ⟨_, List.getElem?_eq_getElem (by omega)⟩
    have hs : (Sk L 0)[j]? = some x.2 := by rw [← hEi]; simp [hx]
    refine ⟨50 + 60, ?_, by omega⟩
    refine goes_then hTr (fun g w h => ?_) (Ext.refl V w) (e_yield fx hq (evs_old fx) (.inr (hrow j x hx).1) (.inr (hrow j x hx).2) hjn _ w hF T t0 t1 t17 t18 t19) (fun a => Ext.refl V a)
    obtain ⟨⟨T', ⟨s0, s1, s17, s18, s19⟩, rfl⟩, hW, u, hu⟩ := h
    refine goes_imp (fun _ _ x => x) (fun _ _ _ x => x) (fun g w h => ?_) (y_walk (fun _ _ h => .inl h) fx x.2 hE _ w ⟨hW, hu⟩)
    obtain ⟨rfl, h2, u', h3⟩ := h
    refine .inl ⟨(), x.2, j + 1, _, u', ex, ?_, rfl, ?_, h2, fun a v h => .inl h, h3⟩
    · simp only [nestT, notesT, hs]
    · have ha : AtE0 nv (Sk L 0) r wg ev (j + 1) b1 b2 ex _ := .inr ⟨j, x.2, eb, c, T', xv, Ei, rfl, hEi, hs, ⟨s0, s1, s17, s18, s19⟩, hrow, rfl⟩
      exact at0 ha
  · obtain rfl : j = (Sk L 0).length := by omega
    have hnone : (Sk L 0)[(Sk L 0).length]? = none := List.getElem?_eq_none (Nat.le_refl _)
    refine ⟨12 + 20, ?_, by omega⟩
    refine goes_then hTr (fun g w h => ?_) (Ext.refl V w) (e_end (R := Ext V) (X := X) (Q := fun w => WB X B (LeanX r ev b1 b2 ((nestT W us L nv).tv 0) (0 : Nat) ex) (fun w => Wr w ∧ (nestT W us L nv).Tm () w) w ∧ ∃ u, Evs X V ev E u w) (fun w w' h r => wb_rl fx hq h r) ev r.bi r.bs r.cr b1 b2 _ xv _ T t0 t1 t17 t18 t19 w hF) (fun a => Ext.refl V a)
    obtain ⟨rfl, hF⟩ := h
    refine goes_imp (fun _ _ x => x) (fun _ _ _ x => x) (fun g w h => ?_) (x_walk (fun _ _ h => .inl h) fx hq xv _ w hF)
    obtain ⟨rfl, h2, u, h3⟩ := h
    exact .inr ⟨(), xv, u, by simp only [nestT, notesT, hnone], rfl, h2, h3⟩
end
end

/-! ### NwNe6 -/
section
set_option linter.unusedSimpArgs false
open Go Go.Conc Go.RowKit Go.ConcR.Gen Cw
section
variable {W : World} {us : List Value} {L : List (List ByteArray)} {nv : Value}
theorem at1' {r : Wk} {wg ev k b1 b2 : Nat} {j : Nat} {ex : Addr → Value → Prop} {g : Goroutine} (hk : k ≠ 0) (h : (notesT W Vn us L).At r wg ev k j b1 b2 ex g) : (nestT W us L nv).At r wg ev k j b1 b2 ex g := by
  show (if k = 0 then AtE0 nv (Sk L 0) r wg ev j b1 b2 ex g else (notesT W Vn us L).At r wg ev k j b1 b2 ex g)
  rw [if_neg hk]
  exact h
theorem nest_ok : TasksOk (nestT W us L nv) W.heap.size Vn where
  old := (notes_ok (W := W) (FV := Vn) (us := us) (L := L)).old
  tvi := fun k => by
    show ∃ ty x, (if k = 0 then Value.iface 43 nv else .iface 44 (slK us k)) = .iface ty x
    split
    · exact ⟨_, _, rfl⟩
    · exact ⟨_, _, rfl⟩
  birth := fun r wg ev k b1 b2 => by
    by_cases hk : k = 0
    · subst hk
      exact at0 (.inl ⟨rfl, rfl⟩)
    · refine at1' hk ?_
      rw [show (nestT W us L nv).tv k = .iface 44 (slK us k) from if_neg hk]
      exact .inl ⟨rfl, rfl⟩
  rk := (notes_ok (W := W) (FV := Vn) (us := us) (L := L)).rk
  inv := fun _ _ _ => trivial
/-- A later turn of the nested task's. -/
theorem nest_later {X : Cx} {V : Nat → Prop} {B : Nat} {r : Wk} {wg ev b1 b2 : Nat} {E : List (Int × ByteArray)} {Wr : World → Prop} {ex : Addr → Value → Prop} (hn63 : (Sk L 0).length < 9223372036854775807) (fx : Fx X V B (LeanX r ev b1 b2 ((nestT W us L nv).tv 0) (0 : Nat) ex) ev (fun w => Wr w ∧ (nestT W us L nv).Tm () w)) (hE : (E.length + 1) * 1024 ≤ 140737488355328)
    {j' : Nat} {s : ByteArray} {eb c : Nat} {T : Array Value} {xv : Value} {Ei : List (Int × ByteArray)} (hEi : Ei.map (·.2) = Sk L 0) (hs : (Sk L 0)[j']? = some s) (hsl : SlE b1 b2 eb (Sk L 0).length c j' T) (hrow : RowIn ex eb Ei) (v : Value) (w : World)
    (hF : WB X B (LeanX r ev b1 b2 ((nestT W us L nv).tv 0) (0 : Nat) ex) (fun w => Wr w ∧ (nestT W us L nv).Tm () w) w ∧ ∃ u, Evs X V ev E u w) :
    ∃ N, Goes Try.prog false (Ext V) (HDq X) ((nestT W us L nv).Turned X V B r wg ev 0 (j' + 1 : Nat) () b1 b2 E Wr ex) N (Go.Conc.served (atR r.bs r.cr r.cp b1 b2 ev r.bi s (fNe T (.inRegion opsE5 [3] :: todoE) :: [frR ev r.bi r.bs r.cr b1 b2 ((nestT W us L nv).tv 0) xv, fr3 wg r.bw r.bt ev r.bi r.bs ((nestT W us L nv).tv 0), bot])) v) w := by
  have hT : ∀ a b c, Ext V a b → Ext V b c → Ext V a c := fun _ _ _ h r => h.trans r
  have hq : ∀ w w', Ext V w w' → (∃ u, Evs X V ev E u w) → ∃ u, Evs X V ev E u w' := fun w w' r h => h.imp fun u hu => evs_rl fx w w' r hu
  have hlt := (List.getElem?_eq_some_iff.1 hs).1
  obtain ⟨t0, t1, t17, t18, t19⟩ := hsl
  have key : ∃ N, ∀ T', SlE b1 b2 eb (Sk L 0).length c (j' + 1) T' → ∀ w, (WB X B (LeanX r ev b1 b2 ((nestT W us L nv).tv 0) (0 : Nat) ex) (fun w => Wr w ∧ (nestT W us L nv).Tm () w) w ∧ ∃ u, Evs X V ev E u w) →
      Goes Try.prog false (Ext V) (HDq X) ((nestT W us L nv).Turned X V B r wg ev 0 (j' + 1 : Nat) () b1 b2 E Wr ex) N (headE T' [frR ev r.bi r.bs r.cr b1 b2 ((nestT W us L nv).tv 0) xv, fr3 wg r.bw r.bt ev r.bi r.bs ((nestT W us L nv).tv 0), bot]) w := by
    refine ⟨200, fun T' hT' w hF => ?_⟩
    obtain ⟨N, h, hN⟩ := e_headN (wg := wg) hEi hrow hn63 fx hE xv (j' + 1) (by omega) T' hT' w hF
    exact Goes.mono h hN
  obtain ⟨N, hN⟩ := key
  refine ⟨10 + N + 3, ?_⟩
  refine y_on hT r.bs r.cr r.cp b1 b2 ev r.bi s v _ w ?_
  refine goes_then hT (fun g w h => ?_) (Ext.refl V w) (e_next (R := Ext V) (X := X) (Q := fun w => WB X B (LeanX r ev b1 b2 ((nestT W us L nv).tv 0) (0 : Nat) ex) (fun w => Wr w ∧ (nestT W us L nv).Tm () w) w ∧ ∃ u, Evs X V ev E u w) (fun w w' h r => wb_rl fx hq h r) hn63 hlt _ T t0 t1 t17 t18 t19 w hF) (fun a => Ext.refl V a)
  obtain ⟨⟨T', hsl', rfl⟩, hF⟩ := h
  exact hN T' hsl' w hF
end
end

/-! ### NwNe7 -/
section
set_option linter.unusedSimpArgs false
open Go Go.Conc Go.RowKit Go.ConcR.Gen Cw
section
variable {W : World} {us : List Value} {L : List (List ByteArray)} {nv : Value}
theorem at0inv {r : Wk} {wg ev j b1 b2 : Nat} {ex : Addr → Value → Prop} {g : Goroutine} (h : (nestT W us L nv).At r wg ev 0 j b1 b2 ex g) : AtE0 nv (Sk L 0) r wg ev j b1 b2 ex g := by
  have h' : (if (0 : Nat) = 0 then AtE0 nv (Sk L 0) r wg ev j b1 b2 ex g else (notesT W Vn us L).At r wg ev 0 j b1 b2 ex g) := h
  rw [if_pos rfl] at h'
  exact h'
/-- A later turn. -/
theorem nest_turn_later [Ref] {c : Rc} (S : Rs c) (O : TasksOk (nestT W us L nv) c.N₀ c.FV) {s : Sst (nestT W us L nv)} {r : Wk} {cs0 : List Frame} {m : Machine} {T : Trace} (hn63 : (Sk L 0).length < 9223372036854775807) (hE : (s.E.length + 1) * 1024 ≤ 140737488355328) {j' : Nat} (hj : s.loc 0 = (j' + 1 : Nat)) (H : TurnS (nestT W us L nv) c s 0 r cs0 m T) : Lands Try.prog m T (TurnedS (nestT W us L nv) c s 0 r cs0) := by
  refine Held.walk H (ws_stb S) fun g w hK => ?_
  obtain ⟨g₂, b1, b2, ex, rfl, hAt, hL, hW, u, hu⟩ := hK
  have one := S.one
  have hf : (c.γ + 0 == 0) = false := by simp; omega
  rcases at0inv hAt with ⟨h0, _⟩ | ⟨j'', s', eb, c', T', xv, Ei, hj2, hEi, hs, hsl, hrow, rfl⟩
  · rw [hj] at h0; cases h0
  · obtain ⟨N, hN⟩ := nest_later (wg := c.wg) hn63 (fx_of S O hL ()) hE hEi hs hsl hrow (.agg #[]) w ⟨hW, u, hu⟩
    refine ⟨N, ?_⟩
    rw [hf]
    rw [hj2]
    exact goes_imp (fun _ _ x => x) (fun _ _ _ x => x) (fun g w h => ⟨b1, b2, ex, hL, h⟩) hN
/-- The world of a turn is one that a call may start from. -/
theorem wd_turn {c : Rc} (S : Rs c) {tv : Nat → Value} {en : Nat → Bool} {Tm : World → Prop} {w : World} (h : WI c tv en Tm w) (hwg : ∃ st sm, Go.ConcR.WgAt link.tWg c.wg w st sm) (hlow : ∀ a, c.Sh (.cell a) → a.block < c.N₀ → ∃ st sm, Go.ConcR.WgAt link.tWg a.block w st sm) (hfv : ∀ b, c.FV b → ∃ st sm, Go.ConcR.WgAt link.tWg b w st sm) : Wd (c.X True) c.V w := by
  have F := S.floor (on := True)
  have hs := h.size
  have hg : ∀ a, c.Sh (.cell a) → ∃ st sm, Go.ConcR.WgAt link.tWg a.block w st sm := fun a ha => by
    rcases h.shg a ha with h1 | h1 | h1
    · exact hlow a ha h1
    · rw [h1]; exact hwg
    · exact h1
  refine ⟨⟨fun a ha => Nat.lt_of_lt_of_le (F.st a ha) hs, fun a ha => Nat.lt_of_lt_of_le (F.ch a ha) hs, fun b o => Nat.lt_of_lt_of_le (F.wg b o) hs, fun a ha => Nat.lt_of_lt_of_le (F.sh a ha) hs, fun b hb => Nat.lt_of_lt_of_le (F.v b hb) hs, fun b hb => Nat.lt_of_lt_of_le (F.ex b hb) hs⟩, fun a v hc hv a' ha' hsa => ?_, fun a v hc hv hV => ?_, fun _ _ h => h⟩
  · obtain ⟨st, sm, hw⟩ := hg a' hsa
    rw [ha'] at hw
    exact wg_no' hw hc hv
  · rcases hV with e | e
    · obtain ⟨st, sm, hw⟩ := hwg
      rw [← e] at hw
      exact wg_no' hw hc hv
    · obtain ⟨st, sm, hw⟩ := hfv _ e
      exact wg_no' hw hc hv
end
end

/-! ### NwNe8 -/
section
set_option linter.unusedSimpArgs false
open Go Go.Conc Go.RowKit Go.ConcR.Gen Cw
section
variable {c : Rc}
/-- The extras behind an inner run: the cells of the row of its events are still. -/
def Rc.behind (c : Rc) (St' : Addr → Prop) (Ch' : Nat → Prop) (Sh' : Loc → Prop) (n' B' : Nat) (row : Addr → Prop) : Re :=
  { B₀ := B', n := n', Sh := Sh', FSt := fun a => c.FSt a ∨ (c.B₁ ≤ a.block ∧ a.block < B' ∧ (St' a ∨ row a)), FCh := fun x => c.FCh x ∨ (c.B₁ ≤ x ∧ x < B' ∧ Ch' x) }
theorem behind_rs (S : Rs c) {St' : Addr → Prop} {Ch' : Nat → Prop} {Sh' : Loc → Prop} {n' B' N : Nat} {row : Addr → Prop} (M : MoreX (c.X True) N St' Ch' Sh') (hN : c.B₀ ≤ N) (hB : c.B₀ ≤ B') (hn : c.n ≤ n') (hlow : ∀ a, Sh' (.cell a) → a.block < B') : Rs (c.wi (c.behind St' Ch' Sh' n' B' row)) ∧ Grow c.toRb c.toRe (c.behind St' Ch' Sh' n' B' row) := by
  have h10 := S.b10
  have fr : ∀ {b : Nat}, c.Fr b → (c.wi (c.behind St' Ch' Sh' n' B' row)).Fr b := fun h => h.imp id fun ⟨x, y⟩ => ⟨x, Nat.lt_of_lt_of_le y hB⟩
  have fv : ∀ {x : Nat}, c.B₁ ≤ x → ¬ c.FV x := fun hx => S.nfv (Nat.le_trans S.lt1 hx)
  refine ⟨⟨S.inj, S.ne, S.rng, S.wb, S.ev, S.wg, Nat.le_trans h10 hB, fun a ha => ?_, fun a ha => M.sh _ (S.shw a ha), S.one, Nat.le_trans S.gn hn, fun a ha => ?_, fun x hx => ?_, S.fv, S.fon, S.ex, S.fwg, S.fb⟩, ⟨hB, hn, M.sh, fun a ha => (M.sh' a ha).imp id fun h => Nat.le_trans h10 (Nat.le_trans hN h), fun a ha => .inl ha, fun x hx => .inl hx, fun a ha => ha.imp id fun h => h.1, fun x hx => hx.imp id fun h => h.1⟩⟩
  · rcases M.sh' a ha with h | h
    · exact (S.sh a h).imp fr id
    · exact .inl (.inr ⟨Nat.le_trans h10 (Nat.le_trans hN h), hlow a ha⟩)
  · rcases ha with h | ⟨h1, h2, _⟩
    · exact fr (S.fst a h)
    · exact .inr ⟨h1, h2⟩
  · rcases hx with h | ⟨h1, h2, _⟩
    · exact ⟨fr (S.fch x h).1, (S.fch x h).2⟩
    · exact ⟨.inr ⟨h1, h2⟩, fv h1⟩
/-- The frame, said anew. -/
theorem behind_crew (S : Rs c) {h : Nat} {B : Nat → By} {Rd : Nat → Loc → Prop} {cn : Nat → Nat} {T : Trace} {gs : Array Goroutine} {w : World} {q : Nat → Nat × Nat} {St' : Addr → Prop} {Ch' : Nat → Prop} {Sh' : Loc → Prop} {n' N : Nat} {row : Addr → Prop} (M : MoreX (c.X True) N St' Ch' Sh') (hN : c.B₀ ≤ N) (hrow : ∀ a, row a → ∃ v, w.cell? a = some v ∧ NotFn v) (hchl : ∀ x, Ch' x → x < w.heap.size)
    (C : Crew Try.prog { c.X True with St := St', Ch := Ch', Sh := Sh' } c.V h 0 B Rd cn T gs w q) : Crew Try.prog ((c.wi (c.behind St' Ch' Sh' n' w.heap.size row)).X True) c.V h 0 B Rd cn T gs w q := by
  have h10 := S.b10
  have hon : ∀ b, (c.X True).on b → b < c.B₁ := fun b o => by
    rcases o with o | ⟨_, rfl⟩
    · have := S.fon b o; have := S.lt1; omega
    · exact S.wg.2
  refine CrewM.recast C (X' := (c.wi (c.behind St' Ch' Sh' n' w.heap.size row)).X True) (V' := c.V) (cn' := cn) (fun a ha => ?_) rfl rfl rfl (fun x hx => ?_) rfl (fun a ha => ?_) (fun x hx hv => ?_) (fun a o => C.sh a o) (fun i s hi e => ⟨rfl, ?_, C.volD i s hi e⟩) (fun b o => ⟨C.mdok b o, C.few b o⟩)
  · rcases M.st' a ha with (h | h) | h
    · exact .inl h
    · exact .inr (.inl h)
    · exact .inr (.inr ⟨by omega, (C.st a ha).1, .inl ha⟩)
  · rcases M.ch' x hx with (h | h) | h
    · exact .inl h
    · exact .inr (.inl h)
    · exact .inr (.inr ⟨by omega, hchl x hx, hx⟩)
  · rcases ha with h | h | ⟨h1, h2, h | h⟩
    · exact (C.st a (M.st a (.inl h))).2
    · exact (C.st a (M.st a (.inr h))).2
    · exact (C.st a h).2
    · exact ⟨fun o => by have := hon _ o; omega, hrow a h⟩
  · rcases hx with h | h | ⟨h1, h2, h⟩
    · exact C.volC x (M.ch x (.inl h)) hv
    · exact C.volC x (M.ch x (.inr h)) hv
    · exact C.volC x h hv
  · have hil : i < gs.size := by
      refine Classical.byContradiction fun hn => ?_
      have := (C.out i (by omega)).2.2
      rw [e] at this; cases this
    have hid := C.idle i _ hi (Array.getElem?_eq_getElem hil)
    rw [e] at hid
    exact hid.2.1
end
end

/-! ### NwNe9 -/
section
set_option linter.unusedSimpArgs false
open Go Go.Conc Go.RowKit Go.ConcR.Gen Cw
section
variable {t : Tasks} {c : Rc} {s : Sst t} {r : Wk} {cs : List Frame}
/-- What the others are about while worker 0 runs a scheduler of its own: as WS has it, for the goroutines that there are. -/
def BpN (t : Tasks) (c : Rc) (s : Sst t) (r : Wk) (cs : List Frame) (B : Nat → By) (cn : Nat → Nat) : Prop :=
  c.FB B cn ∧ (∀ j, c.γ + c.ks.length ≤ j → j < c.n → B j = .gone) ∧ (∀ (k : Nat) (x : Wk), c.ks[k]? = some x → k ≠ 0 →
    (s.en k = false → B (c.γ + k) = .seat x.cr (.agg #[]) (t.home c x k (s.loc k)) ∧ cn (c.γ + k) = 1) ∧ (s.en k = true → B (c.γ + k) = .gone ∨ ∃ j, B (c.γ + k) = .dn j)) ∧ B c.h = .seat r.cp (.bool false) (homeM r cs) ∧ cn (c.γ + 0) = 1
theorem bpn_ok (S : Rs c) (hk0 : 0 < c.ks.length) : BpOk c.n (c.γ + 0) (BpN t c s r cs) := by
  have one := S.one
  have gn := S.gn
  refine ⟨fun h' B cn B' cn' hh hB hl => ?_, fun B cn B' cn' h1 h2 hB => ?_⟩
  · obtain ⟨a1, a2, a3, a4, a5⟩ := hB
    refine ⟨S.fb.st h' B cn B' cn' (.inr ⟨by rcases hh with rfl | h <;> omega, _, _, _, a4⟩) a1 hl, fun j h1 h2 => ?_, fun k x hk hk0 => ⟨fun he => ?_, fun he => ?_⟩, hl.seat.2 a4, ?_⟩
    · have e := a2 j h1 h2
      rcases hl.le j with e' | ⟨⟨_, e'⟩, _⟩
      · rw [e', e]
      · rw [e] at e'; cases e'
    · obtain ⟨e, e'⟩ := (a3 k x hk hk0).1 he
      refine ⟨hl.seat.2 e, ?_⟩
      rw [hl.cn _ (.inr fun j ej => by rw [e] at ej; cases ej)]
      exact e'
    · rcases hl.le (c.γ + k) with e' | ⟨_, ⟨j, e'⟩ | e'⟩
      · rw [e']; exact (a3 k x hk hk0).2 he
      · exact .inr ⟨j, e'⟩
      · exact .inl e'
    · rcases hh with rfl | ⟨_, x, z, hm, e⟩
      · rw [hl.cn _ (.inl rfl)]; exact a5
      · rw [hl.cn _ (.inr fun j ej => by rw [e] at ej; cases ej)]; exact a5
  · obtain ⟨a1, a2, a3, a4, a5⟩ := hB
    refine ⟨S.fb.up B cn B' cn' (fun j hj _ => h1 j (by omega) (by omega)) (fun j hj => h2 j (by omega)) a1, fun j h3 h4 => by rw [h1 j h4 (by omega)]; exact a2 j h3 h4, fun k x hk hk0 => ?_, by rw [h1 _ (by omega) (by omega)]; exact a4, by rw [h2 _ (by omega)]; exact a5⟩
    have hlt := (List.getElem?_eq_some_iff.1 hk).1
    rw [h1 _ (by omega) (by omega), h2 _ (by omega)]
    exact a3 k x hk hk0
end
end

/-! ### NwNe10 -/
section
set_option linter.unusedSimpArgs false
open Go Go.Conc Go.RowKit Go.ConcR.Gen Cw
section
variable {P : Program} {X : Cx} {V : Nat → Prop} {h dh : Nat} {B : Nat → By} {Rd : Nat → Loc → Prop} {cn : Nat → Nat} {T : Trace} {gs : Array Goroutine} {w : World} {q : Nat → Nat × Nat} {md : Nat → Md}
/-- The channels that there are. -/
theorem crew_ch (C : CrewM P X V h dh B Rd cn T gs w q md) : CrewM P { X with Ch := fun x => X.Ch x ∧ x < w.heap.size } V h dh B Rd cn T gs w q md := by
  refine ⟨C.hlt, C.idle, fun i c z home hi e => ?_, C.inj, C.out, C.hdeaf, C.rdp, C.rds, C.st, C.sh, C.shlow, C.exlow, C.mdok, C.few, C.volD, fun c hc => C.volC c hc.1, C.past⟩
  obtain ⟨h1, k, h2⟩ := C.seats i c z home hi e
  exact ⟨⟨h1, (Array.getElem?_eq_some_iff.1 h2).1⟩, k, h2⟩
end
/-- A row of events of the call's own. -/
theorem own_evrow0 {w : World} {base : Nat} {e : TypeId} {u : Value} {E : List (Int × ByteArray)} (h : w.ownsRow base e 2 u E.length (evCells E)) : ∃ a c, u = .slice a E.length c ∧ (E = [] ∨ ∃ g, a = some ⟨g, 0, none⟩ ∧ base ≤ g ∧ u.ownBlock = some g ∧ ∀ (k : Nat) (x : Int × ByteArray), E[k]? = some x → w.cell? ⟨g, k * 2, none⟩ = some (.int .i64 x.1) ∧ w.cell? ⟨g, k * 2 + 1, none⟩ = some (.string x.2)) := by
  rcases h.2 with ⟨rfl, hn⟩ | ⟨g, cap, cur, rfl, hb, hg, hc1, _, hc2, ht⟩
  · have : E = [] := List.eq_nil_of_length_eq_zero hn
    subst this
    exact ⟨none, 0, rfl, .inl rfl⟩
  · refine ⟨some ⟨g, 0, none⟩, cap, rfl, .inr ⟨g, rfl, hb, rfl, fun k x hk => ?_⟩⟩
    obtain ⟨h1, h2⟩ := evCells_at E k x hk
    have key : ∀ (j : Nat) (v : Value), (evCells E)[j]? = some v → w.cell? ⟨g, j, none⟩ = some v := by
      intro j v hv
      rw [← ht, List.getElem?_take] at hv
      split at hv
      · simp only [World.cell?, hg]
        simpa using hv
      · cases hv
    exact ⟨key _ _ h1, key _ _ h2⟩
section
variable {t : Tasks} {c : Rc} {s : Sst t} {St' : Addr → Prop} {Ch' : Nat → Prop} {Sh' : Loc → Prop} {n' : Nat} {row : Addr → Prop} {w w3 : World}
/-- What a worker knows, behind an inner run. -/
theorem behind_wb (S : Rs c) (O : TasksOk t c.N₀ c.FV) {L L' : Addr → Value → Prop} (hL : ∀ a v, L a v → ¬ c.Sh (.cell a) ∧ a.block ≠ c.ev) (hW : WB (c.X True) c.B₀ L (fun w => WrW t c s.en L w ∧ t.Tm s.m w) w) (M : MoreX (c.X True) w.heap.size St' Ch' Sh') (hsz : w.heap.size ≤ w3.heap.size) (hsame : ∀ b, b < w.heap.size → ¬ c.V b → w3.heap[b]? = w.heap[b]?)
    (hshg : ∀ a, Sh' (.cell a) → (c.Sh (.cell a) ∧ a.block < w.heap.size) ∨ ∃ st sm, Go.ConcR.WgAt link.tWg a.block w3 st sm) (hL' : ∀ a v, L' a v → L a v ∨ (row a ∧ w3.cell? a = some v ∧ NotFn v ∧ ¬ Sh' (.cell a) ∧ w.heap.size ≤ a.block)) :
    (∀ a v, L' a v → ¬ (c.wi (c.behind St' Ch' Sh' n' w3.heap.size row)).Sh (.cell a) ∧ a.block ≠ c.ev) ∧ WB ((c.wi (c.behind St' Ch' Sh' n' w3.heap.size row)).X True) (c.wi (c.behind St' Ch' Sh' n' w3.heap.size row)).B₀ L' (fun w => WrW t (c.wi (c.behind St' Ch' Sh' n' w3.heap.size row)) s.en L' w ∧ t.Tm s.m w) w3 := by
  have h10 := S.b10
  have hB := hW.size
  have sev := S.ev
  have hlt : ∀ a v, L a v → a.block < w.heap.size := fun a v hav => block_of_cell (hW.kl a v hav)
  have hnv : ∀ a v, L a v → ¬ c.V a.block := fun a v hav e => (hL a v hav).1 (S.shw a e)
  have hbk : ∀ a v, L a v → w3.heap[a.block]? = w.heap[a.block]? := fun a v hav => hsame _ (hlt a v hav) (hnv a v hav)
  have hSt : ∀ a, (c.X True).St a → ((c.wi (c.behind St' Ch' Sh' n' w3.heap.size row)).X True).St a := fun a ha => ha.imp id .inl
  have hcell : ∀ a v, L' a v → w3.cell? a = some v := fun a v hav => by
    rcases hL' a v hav with h | h
    · rw [cell_of_block (hbk a v h)]; exact hW.kl a v h
    · exact h.2.1
  have hrow : ∀ a, row a → ∀ v, w3.cell? a = some v → w.heap.size ≤ a.block → ((c.wi (c.behind St' Ch' Sh' n' w3.heap.size row)).X True).St a := fun a hr v hc hs => .inr (.inr ⟨by omega, block_of_cell hc, .inr hr⟩)
  have hold : ∀ b, c.N₀ ≤ b → b < c.B₁ → b ≠ c.wg → w3.heap[b]? = w.heap[b]? := fun b h1 h2 h3 => hsame b (by omega) (S.nv h1 h3)
  have WI0 := hW.task.1.1
  refine ⟨fun a v hav => ?_, ⟨hcell, Nat.le_refl _, ⟨⟨⟨fun k r hk => ?_, ?_, trivial, Nat.le_refl _, fun a ha => ?_⟩, fun a v hav => ?_⟩, ?_⟩, fun a v hav => ?_⟩⟩
  · rcases hL' a v hav with h | h
    · refine ⟨fun hs => ?_, (hL a v h).2⟩
      rcases M.sh' a hs with h1 | h1
      · exact (hL a v h).1 h1
      · have := hlt a v h; omega
    · exact ⟨h.2.2.2.1, by omega⟩
  · refine (WI0.wk k r hk).same fun b hb => ?_
    obtain ⟨a1, a2, a3, _⟩ := S.rng r (mem_of_get hk) b hb
    exact hold b a1 a2 a3
  · obtain ⟨ws, h1, h2⟩ := WI0.wb
    exact ⟨ws, (hold _ S.wb.1 S.wb.2.1 S.wb.2.2.1).trans h1, h2⟩
  · rcases hshg a ha with ⟨h1, h2⟩ | h
    · rcases WI0.shg a h1 with h3 | h3 | ⟨st, sm, h3⟩
      · exact .inl h3
      · exact .inr (.inl h3)
      · by_cases h4 : a.block < c.N₀
        · exact .inl h4
        by_cases h5 : a.block = c.wg
        · exact .inr (.inl h5)
        · exact .inr (.inr ⟨st, sm, (hsame _ h2 (S.nv (Nat.le_of_not_lt h4) h5)).trans h3⟩)
    · exact .inr (.inr h)
  · rcases hL' a v hav with h | h
    · obtain ⟨p1, p2⟩ := hW.task.1.2 a v h
      have bx : BoxAt (c.X True) w a.block → BoxAt ((c.wi (c.behind St' Ch' Sh' n' w3.heap.size row)).X True) w3 a.block := fun ⟨v', ty, h3, h4⟩ => ⟨v', ty, (hbk a v h).trans h3, h4⟩
      exact ⟨p1.imp (hSt a) fun ⟨x, y, z⟩ => ⟨x, y, bx z⟩, fun x => bx (p2 x)⟩
    · exact ⟨.inl (hrow a h.1 v h.2.1 h.2.2.2.2), fun x => absurd h.2.2.1 x⟩
  · exact O.old s.m w w3 (fun b hb hv => hsame b (by have := S.lt; omega) (S.nv0 hb hv)) hW.task.2
  · rcases hL' a v hav with h | h
    · rcases hW.lt a v h with h1 | h1
      · exact .inl fun cs hc => h1 cs (by rw [← hbk a v h]; exact hc)
      · exact .inr (hSt a h1)
    · exact .inr (hrow a h.1 v h.2.1 h.2.2.2.2)
/-- .. and the events. -/
theorem behind_evs {E : List (Int × ByteArray)} {u : Value} (hE : Evs (c.X True) c.V c.ev E u w) (S : Rs c) (hB : c.B₀ ≤ w.heap.size) (M : MoreX (c.X True) w.heap.size St' Ch' Sh') (hsame : ∀ b, b < w.heap.size → ¬ c.V b → w3.heap[b]? = w.heap[b]?) (hrow : ∀ a, row a → w.heap.size ≤ a.block) :
    Evs ((c.wi (c.behind St' Ch' Sh' n' w3.heap.size row)).X True) c.V c.ev E u w3 := by
  have sev := S.ev
  have h10 := S.b10
  have hg0 : ∀ g, u.ownBlock = some g → g < w.heap.size := fun g hg => by
    obtain ⟨cur, hc⟩ := hE.own hg
    exact (Array.getElem?_eq_some_iff.1 hc).1
  refine ⟨(hsame _ (by omega) (S.nv sev.1 sev.2.2)).trans hE.cell, ⟨hE.row.1, ?_⟩, fun g hg => ?_⟩
  · rcases hE.row.2 with hn | ⟨g, cap, cur, rfl, hb, hgg, rest⟩
    · exact .inl hn
    · exact .inr ⟨g, cap, cur, rfl, hb, (hsame g (Array.getElem?_eq_some_iff.1 hgg).1 (hE.ok g rfl).nv).trans hgg, rest⟩
  · have hgl := hg0 g hg
    have ok := hE.ok g hg
    refine ⟨ok.nv, fun a ha hs => ?_, fun a ha hs => ?_, fun hc => ?_, ok.wg, ok.ex⟩
    · rcases hs with h | h | ⟨_, _, h | h⟩
      · exact ok.st a ha (.inl h)
      · exact ok.st a ha (.inr h)
      · rcases M.st' a h with h | h
        · exact ok.st a ha h
        · omega
      · have := hrow a h; omega
    · rcases M.sh' a hs with h | h
      · exact ok.sh a ha h
      · omega
    · rcases hc with h | h | ⟨_, _, h⟩
      · exact ok.ch (.inl h)
      · exact ok.ch (.inr h)
      · rcases M.ch' g h with h | h
        · exact ok.ch h
        · omega
end
section
variable {W : World} {us : List Value} {L : List (List ByteArray)} {nv : Value}
/-- The loop's head, where the inner run ends: there may be no event. -/
theorem e_head0 {X : Cx} {V : Nat → Prop} {B : Nat} {r : Wk} {wg ev b1 b2 c : Nat} {a : Option Addr} {E Ei : List (Int × ByteArray)} {Wr : World → Prop} {ex : Addr → Value → Prop} (hEi : Ei.map (·.2) = Sk L 0) (hrow : Ei = [] ∨ ∃ g, a = some ⟨g, 0, none⟩ ∧ RowIn ex g Ei) (hn63 : (Sk L 0).length < 9223372036854775807)
    (fx : Fx X V B (LeanX r ev b1 b2 ((nestT W us L nv).tv 0) (0 : Nat) ex) ev (fun w => Wr w ∧ (nestT W us L nv).Tm () w)) (hE : (E.length + 1) * 1024 ≤ 140737488355328) (xv : Value) (T : Array Value) (t0 : T.size = 28) (t1 : T[1]? = some (yldF b1 b2)) (t17 : T[17]? = some (.slice a Ei.length c)) (t18 : T[18]? = some (.int .i64 Ei.length)) (t19 : T[19]? = some (.int .i64 0)) (w : World)
    (hF : WB X B (LeanX r ev b1 b2 ((nestT W us L nv).tv 0) (0 : Nat) ex) (fun w => Wr w ∧ (nestT W us L nv).Tm () w) w ∧ ∃ u, Evs X V ev E u w) :
    ∃ N, Goes Try.prog false (Ext V) (HDq X) ((nestT W us L nv).Turned X V B r wg ev 0 (0 : Nat) () b1 b2 E Wr ex) N (headE T [frR ev r.bi r.bs r.cr b1 b2 ((nestT W us L nv).tv 0) xv, fr3 wg r.bw r.bt ev r.bi r.bs ((nestT W us L nv).tv 0), bot]) w ∧ N ≤ 200 := by
  have hlen : Ei.length = (Sk L 0).length := by rw [← hEi]; simp
  rcases hrow with rfl | ⟨g, rfl, hrow⟩
  · have hq : ∀ w w', Ext V w w' → (∃ u, Evs X V ev E u w) → ∃ u, Evs X V ev E u w' := fun w w' r h => h.imp fun u hu => evs_rl fx w w' r hu
    have hTr : ∀ a b c, Ext V a b → Ext V b c → Ext V a c := fun _ _ _ h r => h.trans r
    have hnone : (Sk L 0)[0]? = none := by rw [← hEi]; simp
    refine ⟨12 + 20, ?_, by omega⟩
    refine goes_then hTr (fun g w h => ?_) (Ext.refl V w) (e_end (n := 0) (R := Ext V) (X := X) (Q := fun w => WB X B (LeanX r ev b1 b2 ((nestT W us L nv).tv 0) (0 : Nat) ex) (fun w => Wr w ∧ (nestT W us L nv).Tm () w) w ∧ ∃ u, Evs X V ev E u w) (fun w w' h r => wb_rl fx hq h r) ev r.bi r.bs r.cr b1 b2 _ xv _ T t0 t1 t17 t18 t19 w hF) (fun a => Ext.refl V a)
    obtain ⟨rfl, hF⟩ := h
    refine goes_imp (fun _ _ x => x) (fun _ _ _ x => x) (fun g w h => ?_) (x_walk (fun _ _ h => .inl h) fx hq xv _ w hF)
    obtain ⟨rfl, h2, u, h3⟩ := h
    exact .inr ⟨(), xv, u, by simp only [nestT, notesT, hnone], rfl, h2, h3⟩
  · rw [hlen] at t17 t18
    exact e_headN (wg := wg) hEi hrow hn63 fx hE xv 0 (Nat.zero_le _) T ⟨t0, t1, t17, t18, t19⟩ w hF
end
end
end Go.Proofs.Ytggfcdhkgldbfaa
