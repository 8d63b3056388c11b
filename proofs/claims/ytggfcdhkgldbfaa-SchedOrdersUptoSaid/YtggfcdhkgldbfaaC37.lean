/-
  PARTS of a claim, merged by segs.py: CwOrP, CwOr1.
-/
import Derived.Test.YtggfcdhkgldbfaaC29
import Derived.Test.YtggfcdhkgldbfaaC36
import Derived.Test.YtggfcdhkgldbfaaC32
namespace Go.Proofs.Ytggfcdhkgldbfaa
set_option linter.unusedSimpArgs false
set_option linter.unusedVariables false

/-! ### CwOrP -/
section
open Go Go.Conc Go.RowKit Go.ConcR.Gen Cw

/-- The events, replayed: each task's notes in order. -/
def repl (L : List (List ByteArray)) : List Nat → List (Int × ByteArray) → Option (List Nat)
  | A, [] => some A
  | A, x :: E => if 0 ≤ x.1 ∧ x.1 < L.length ∧ (Sk L x.1.toNat)[A.getD x.1.toNat 0]? = some x.2 then repl L (A.set x.1.toNat (A.getD x.1.toNat 0 + 1)) E else none
theorem repl_snoc {L : List (List ByteArray)} {x : Int × ByteArray} : ∀ (E : List (Int × ByteArray)) (A : List Nat), repl L A (E ++ [x]) = (repl L A E).bind fun B => repl L B [x]
  | [], A => by simp [repl]
  | y :: E, A => by
    simp only [List.cons_append, repl]
    split
    · exact repl_snoc E _
    · rfl
/-- What stands behind each step of the document's. -/
structure Rpl (L : List (List ByteArray)) (s : List Nat × List (Int × ByteArray)) : Prop where
  len : s.1.length = L.length
  rep : ∃ B, repl L (List.replicate L.length 0) s.2 = some B ∧ B.length = L.length ∧ ∀ t, t < L.length → B.getD t 0 = min (s.1.getD t 0) (Sk L t).length
theorem getD_set {A : List Nat} {t u x : Nat} (h : t < A.length) : (A.set t x).getD u 0 = if t = u then x else A.getD u 0 := by
  simp only [List.getD_eq_getElem?_getD, List.getElem?_set]
  split
  · rename_i e; subst e; simp
  · rfl
theorem rpl_step {L : List (List ByteArray)} {s : List Nat × List (Int × ByteArray)} {t : Nat} (ht : t < L.length) (h : Rpl L s) : Rpl L (refStep L s t) := by
  obtain ⟨A, E⟩ := s
  obtain ⟨hl, B, hB, hBl, hm⟩ := h
  simp only at hl hB hm
  cases hs : (Sk L t)[A.getD t 0]? with
  | none =>
    have hge := List.getElem?_eq_none_iff.1 hs
    refine ⟨by simp [refStep, hl], B, by simp only [refStep, hs]; exact hB, hBl, fun u hu => ?_⟩
    simp only [refStep]
    rw [getD_set (by omega), hm u hu]
    split
    · rename_i e; subst e; omega
    · rfl
  | some x =>
    have hlt := (List.getElem?_eq_some_iff.1 hs).1
    have hBt : B.getD t 0 = A.getD t 0 := by rw [hm t ht]; omega
    refine ⟨by simp [refStep, hl], B.set t (A.getD t 0 + 1), ?_, by simp [hBl], fun u hu => ?_⟩
    · simp only [refStep, hs]
      rw [repl_snoc, hB]
      simp only [Option.bind_some, repl, Int.toNat_natCast, hBt, hs, and_true]
      rw [if_pos ⟨by omega, by omega⟩]
    · simp only [refStep]
      rw [getD_set (by omega), getD_set (by omega)]
      split
      · rename_i e; subst e; omega
      · exact hm u hu
theorem step_grow {L : List (List ByteArray)} {s : List Nat × List (Int × ByteArray)} {t : Nat} (hl : t < s.1.length) (u : Nat) : (refStep L s t).1.getD u 0 = if t = u then s.1.getD t 0 + 1 else s.1.getD u 0 := by
  simp only [refStep]
  exact getD_set hl
theorem itr_rpl {L : List (List ByteArray)} {t : Nat} (ht : t < L.length) : ∀ (k : Nat) (s : List Nat × List (Int × ByteArray)), Rpl L s → Rpl L (itr (fun s => refStep L s t) k s) ∧ ∀ u, (itr (fun s => refStep L s t) k s).1.getD u 0 = if t = u then s.1.getD t 0 + k else s.1.getD u 0
  | 0, s, h => ⟨h, fun u => by
    simp only [itr]
    split
    · rename_i e; subst e; rfl
    · rfl⟩
  | k + 1, s, h => by
    obtain ⟨h1, h2⟩ := itr_rpl ht k _ (rpl_step ht h)
    refine ⟨h1, fun u => ?_⟩
    simp only [itr]
    have hl : t < s.1.length := by rw [h.len]; exact ht
    rw [h2 u]
    split
    · rw [step_grow hl, if_pos rfl]; omega
    · rename_i e; rw [step_grow hl, if_neg e]
theorem drain_rpl {L : List (List ByteArray)} {t : Nat} {s : List Nat × List (Int × ByteArray)} (ht : t < L.length) (h : Rpl L s) : Rpl L (refDrain L s t) ∧ ∀ u, (refDrain L s t).1.getD u 0 = if t = u then s.1.getD t 0 + ((Sk L t).length - s.1.getD t 0) else s.1.getD u 0 := itr_rpl ht _ _ h
theorem picks_rpl {L : List (List ByteArray)} : ∀ (ps : List Nat) (s : List Nat × List (Int × ByteArray)), (∀ t ∈ ps, t < L.length) → Rpl L s → Rpl L (ps.foldl (refStep L) s)
  | [], _, _, h => h
  | t :: ps, s, hp, h => picks_rpl ps _ (fun u hu => hp u (by simp [hu])) (rpl_step (hp t (by simp)) h)
theorem drains_rpl {L : List (List ByteArray)} {s : List Nat × List (Int × ByteArray)} (h : Rpl L s) : ∀ m, m ≤ L.length → Rpl L ((List.range m).foldl (refDrain L) s) ∧ ∀ u, u < m → (Sk L u).length ≤ ((List.range m).foldl (refDrain L) s).1.getD u 0
  | 0, _ => ⟨h, fun u hu => by omega⟩
  | m + 1, hm => by
    obtain ⟨h1, h2⟩ := drains_rpl h m (by omega)
    rw [List.range_succ, List.foldl_append]
    simp only [List.foldl_cons, List.foldl_nil]
    obtain ⟨h3, h4⟩ := drain_rpl (t := m) (by omega) h1
    refine ⟨h3, fun u hu => ?_⟩
    rw [h4 u]
    split
    · rename_i e; subst e; omega
    · exact h2 u (by omega)
/-- The document's events, replayed, are all notes, each once and in order. -/
theorem refRun_repl {L : List (List ByteArray)} {ps : List Nat} (hp : ∀ t ∈ ps, t < L.length) : ∃ B, repl L (List.replicate L.length 0) (refRun L ps) = some B ∧ B.length = L.length ∧ ∀ t, t < L.length → B.getD t 0 = (Sk L t).length := by
  have h0 : Rpl L (List.replicate L.length 0, []) := ⟨by simp, _, rfl, by simp, fun t ht => by simp [List.getD_eq_getElem?_getD, ht]⟩
  obtain ⟨h1, h2⟩ := drains_rpl (picks_rpl ps _ hp h0) L.length (Nat.le_refl _)
  obtain ⟨B, hB, hBl, hm⟩ := h1.rep
  exact ⟨B, hB, hBl, fun t ht => by have := hm t ht; have := h2 t ht; omega⟩

/-- The events of the first m tasks, one task after the other. -/
def flat (L : List (List ByteArray)) (m : Nat) : List (Int × ByteArray) := (List.range m).flatMap fun t => (Sk L t).map fun s => ((t : Int), s)
theorem flat_succ (L : List (List ByteArray)) (m : Nat) : flat L (m + 1) = flat L m ++ (Sk L m).map fun s => ((m : Int), s) := by simp [flat, List.range_succ]
theorem flat_get {L : List (List ByteArray)} {t j : Nat} {s : ByteArray} : ∀ {n : Nat}, t < n → (Sk L t)[j]? = some s → (flat L n)[(flat L t).length + j]? = some ((t : Int), s)
  | 0, h, _ => by omega
  | n + 1, h, hs => by
    rw [flat_succ]
    by_cases e : t = n
    · subst e
      rw [List.getElem?_append_right (by omega), show (flat L t).length + j - (flat L t).length = j by omega, List.getElem?_map, hs]
      rfl
    · have h1 := flat_get (n := n) (by omega) hs
      rw [List.getElem?_append_left (List.getElem?_eq_some_iff.1 h1).1, h1]
theorem itr_flat {L : List (List ByteArray)} {t : Nat} : ∀ (k j : Nat) (A : List Nat) (E : List (Int × ByteArray)), t < A.length → A.getD t 0 = j → k + j = (Sk L t).length →
    itr (fun s => refStep L s t) k (A, E) = (A.set t (Sk L t).length, E ++ ((Sk L t).drop j).map fun s => ((t : Int), s))
  | 0, j, A, E, ht, hj, hk => by
    have hs : A.set t (Sk L t).length = A := by
      apply List.ext_getElem?
      intro u
      rw [List.getElem?_set]
      split
      · rename_i e; subst e
        simp only [List.getD_eq_getElem?_getD] at hj
        rw [List.getElem?_eq_getElem ht] at hj ⊢
        simp only [Option.getD_some] at hj
        simp; omega
      · rfl
    rw [List.drop_of_length_le (by omega), hs]
    simp [itr]
  | k + 1, j, A, E, ht, hj, hk => by
    have hlt : j < (Sk L t).length := by omega
    have e : refStep L (A, E) t = (A.set t (j + 1), E ++ [((t : Int), (Sk L t)[j])]) := by
      simp only [refStep, hj, List.getElem?_eq_getElem hlt]
    simp only [itr]
    rw [e, itr_flat k (j + 1) _ _ (by simpa using ht) (by rw [getD_set ht, if_pos rfl]) (by omega), List.set_set, List.append_assoc, List.drop_eq_getElem_cons hlt]
    rfl
theorem drains_flat {L : List (List ByteArray)} {n : Nat} : ∀ m, m ≤ n → ∃ A : List Nat, (List.range m).foldl (refDrain L) (List.replicate n 0, []) = (A, flat L m) ∧ A.length = n ∧ ∀ u, m ≤ u → A.getD u 0 = 0
  | 0, _ => ⟨_, rfl, by simp, fun u _ => by simp only [List.getD_eq_getElem?_getD, List.getElem?_replicate]; split <;> rfl⟩
  | m + 1, hm => by
    obtain ⟨A, h1, h2, h3⟩ := drains_flat (L := L) (n := n) m (by omega)
    rw [List.range_succ, List.foldl_append, h1]
    simp only [List.foldl_cons, List.foldl_nil]
    have h4 := h3 m (Nat.le_refl _)
    have h5 := itr_flat (L := L) (t := m) (Sk L m).length 0 A (flat L m) (by omega) h4 (by omega)
    refine ⟨A.set m (Sk L m).length, ?_, by simp [h2], fun u hu => ?_⟩
    · unfold refDrain
      simp only
      rw [h4, Nat.sub_zero, h5, flat_succ, List.drop_zero]
    · rw [getD_set (by omega), if_neg (by omega)]
      exact h3 u (by omega)
/-- Without picks the tasks run one after the other. -/
theorem refRun_flat (L : List (List ByteArray)) : refRun L [] = flat L L.length := by
  obtain ⟨A, h, _⟩ := drains_flat (L := L) (n := L.length) L.length (Nat.le_refl _)
  unfold refRun
  simp only [List.foldl_nil]
  rw [h]
end

/-! ### CwOr1 -/
section
set_option linter.unusedSimpArgs false
open Go Go.Conc Go.RowKit Go.ConcR.Gen Cw

theorem guardSe : Try.prog.eqGuardType Try.prog.depth 40 = false := by kernel_rfl
theorem heldSe : Try.prog.stoodInHeld 40 = false := by kernel_rfl
theorem structSe : Try.prog.underlying 40 = some (.struct (Try.prog.fieldsOf 40)) := by kernel_rfl
theorem eq_se (i : Int) (s : ByteArray) (i' : Int) (s' : ByteArray) (w : World) : (Op.equalIn 10000 40 (.agg #[.int .i64 i, .string s]) (.agg #[.int .i64 i', .string s'])).run Try.prog w = .ok (evq i s i' s') w := by
  rw [run_equalIn_agg w 9999 _ _ _ structSe heldSe]
  simp [go_sem, Try.underlying40, Try.underlying3, Try.underlying9]
  unfold evq
  by_cases h1 : i = i' <;> by_cases h3 : s.toList = s'.toList <;> simp [h1, h3]
theorem ee3s (i : Int) (s : ByteArray) (i' : Int) (s' : ByteArray) (w : World) (es : Array Event) : (eqGuard .neq 40 (.tmp 72) (.tmp 75) (.agg #[.int .i64 i, .string s]) (.agg #[.int .i64 i', .string s'])).events Try.prog w es = es := by
  simp [eqGuard, go_sem, guardSe, run_program]
theorem ee4s (n : Nat) (i : Int) (s : ByteArray) (i' : Int) (s' : ByteArray) (w : World) (es : Array Event) : (Op.equalIn (n+1+1) 40 (.agg #[.int .i64 i, .string s]) (.agg #[.int .i64 i', .string s'])).events Try.prog w es = es := by
  rw [Op.equalIn]
  simp only [Sem.events_bind, run_underlying Try.underlying40, events_underlying, Result.evThen_ok, run_program, heldSe]
  simp [go_sem, Try.underlying40, heldSe, run_program, ee1, ee2]
theorem se_neq (i : Int) (s : ByteArray) (i' : Int) (s' : ByteArray) (w : World) (es : Array Event) : (binOp .neq 40 (.agg #[.int .i64 i, .string s]) (.agg #[.int .i64 i', .string s'])).events Try.prog w es = es := by
  have h := ee4s 9998 i s i' s' w es
  have h2 := eq_se i s i' s' w
  simp only [binOp]
  simp [Op.equal, Op.maxDepth, go_sem, h, h2]
noncomputable def cdO1 : Code := lf loopsO
noncomputable def cdO2 : Code := lf (rt loopsO)
noncomputable def cdO3 : Code := lf (rt (rt loopsO))
def fl (L : List (List ByteArray)) (t : Nat) : Nat := (flat L t).length
theorem fl_succ (L : List (List ByteArray)) (t : Nat) : fl L (t + 1) = fl L t + (Sk L t).length := by simp [fl, flat_succ]
theorem rep_succ (t : Nat) : ints (List.replicate (t + 1) 0) = ints (List.replicate t 0) ++ [.int .i64 0] := by
  rw [List.replicate_succ']
  simp [ints]
set_option maxRecDepth 100000 in
set_option maxHeartbeats 8000000 in
theorem c_o1 {Sh : Loc → Prop} {W : World} {main : Bool} (hS : ShOk Sh W) {al ad : Option Addr} {n lcap dn dc : Nat} {us : List Value} {L : List (List ByteArray)} {sE : Value} {lp lo : Nat} (hal : al = some ⟨lp, lo, none⟩) (hrow : ∀ (k : Nat) (u : Value), us[k]? = some u → W.cell? ⟨lp, lo + k, none⟩ = some u) (hn1 : us.length ≤ n) (hn2 : n ≤ us.length) (hn10 : n ≤ 10) (hk : ∀ k, ∃ a c, slK us k = .slice a (Sk L k).length c ∧ Nts a (Sk L k) W) (hk20 : ∀ k, (Sk L k).length ≤ 20) (hD : EvRow W ad (flat L n)) (hdn1 : dn ≤ fl L n) (hdn2 : fl L n ≤ dn) (hdl : dn ≤ 1000000) :
    ∃ k, ∀ (Qx : Exit → Act → World → Prop) (T : Array Value) (w : World), T.size = 159 → T[1]? = some (.slice al n lcap) → T[6]? = some sE → T[8]? = some (.slice ad dn dc) → T[10]? = some (.slice none 0 0) → T[11]? = some (.int .i64 0) → Ext Vn W w →
      cdO1.wpC Try.prog main (Ext Vn) (HDq (Cx0 Sh)) 4 k (Exit.then (fun a' w' => ∃ T u, a' = ⟨T, []⟩ ∧ T.size = 159 ∧ T[1]? = some (.slice al n lcap) ∧ T[6]? = some sE ∧ T[8]? = some (.slice ad dn dc) ∧ T[10]? = some u ∧ T[11]? = some (.int .i64 dn) ∧ Ext Vn W w' ∧ w'.ownsRow W.heap.size 3 1 u n (ints (List.replicate n 0))) Qx) ⟨T, []⟩ w := by
  have rl0 : ∀ {w w' : World}, Ext Vn W w → Ext Vn w w' → Ext Vn W w' := fun h r => h.trans r
  have rl : ∀ {u : Value} {l : List Value} {k : Nat} {w w' : World}, (Ext Vn W w ∧ w.ownsRow W.heap.size 3 1 u k l) → Ext Vn w w' → (Ext Vn W w' ∧ w'.ownsRow W.heap.size 3 1 u k l) := fun h r => ⟨h.1.trans r, ownsRow_ext h.2 r fun _ _ => id⟩
  obtain ⟨it, hit, hz1, hz2, hz3⟩ := intInfo
  subst hal
  co_apply Exists.intro
  intro Qx T w hT h1 h6 h8 h10 h11 hF
  rw [arrG159 T hT]
  simp only [gv_of h1, gv_of h6, gv_of h8, gv_of h10, gv_of h11]
  simp only [cdO1, loopsO, restO, bodyO, rt, lf, Try.f4, Option.getD_some]
  co_apply wpC_seq (TT Sh)
  co_reg (TT Sh)
  co_op rl0 hF (co_quiet (TT Sh))
  co_op rl0 hF (co_quiet (TT Sh))
  co_op rl0 hF (co_quiet (TT Sh))
  co_apply opsC_nil (TT Sh)
  co_then
  co_apply wpC_block (TT Sh)
  co_apply wpC_loop (TT Sh) (fun a' w' => ∃ (T : Array Value) (tt : Nat) (kk : Nat) (u : Value), a' = ⟨T, []⟩ ∧ T.size = 159 ∧ T[1]? = some (.slice (some ⟨lp, lo, none⟩) n lcap) ∧ T[6]? = some (sE) ∧ T[8]? = some (.slice ad dn dc) ∧ T[10]? = some (u) ∧ T[11]? = some (.int .i64 (kk : Nat)) ∧ T[48]? = some (.slice (some ⟨lp, lo, none⟩) n lcap) ∧ T[49]? = some (.int .i64 n) ∧ T[50]? = some (.int .i64 tt) ∧ tt ≤ n ∧ kk ≤ fl L tt ∧ fl L tt ≤ kk ∧ Ext Vn W w' ∧ w'.ownsRow W.heap.size 3 1 u tt (ints (List.replicate tt 0))) (fun a' _ => n - slotN a' 50) _ (n)
  · exact ⟨_, 0, 0, .slice none 0 0, rfl, rfl, rfl, rfl, rfl, rfl, rfl, rfl, rfl, rfl, by omega, by omega, by simp [fl, flat], hF, by simpa [ints] using World.ownsRow_nil _ _ _ _⟩
  · simp [slotN]
  clear hF w
  rintro a' w ⟨T, tt, kk, u, rfl, hT, h1, h6, h8, h10, h11, h48, h49, h50, hi, hk1, hk2, hF⟩
  rw [arrG159 T hT]
  simp only [gv_of h1, gv_of h6, gv_of h8, gv_of h10, gv_of h11, gv_of h48, gv_of h49, gv_of h50]
  co_apply wpC_seq (TT Sh)
  co_reg (TT Sh)
  co_op rl hF (co_quiet (TT Sh))
  co_apply opsC_nil (TT Sh)
  co_then
  co_apply wpC_seq (TT Sh)
  co_split (TT Sh) (decide ((tt : Int) < (n : Int)))
  · intro ht
    have hil : tt < n := by simpa using ht
    co_apply wpC_skip (TT Sh)
    co_then
    co_apply wpC_seq (TT Sh)
    co_apply wpC_block (TT Sh)
    co_apply wpC_seq (TT Sh)
    obtain ⟨uu, huu⟩ : ∃ uu, us[tt]? = some uu := ⟨_, List.getElem?_eq_getElem (by omega)⟩
    obtain ⟨sa, sc, hut, hnt⟩ := hk tt
    have huu2 : us[tt]? = some (.slice sa (Sk L tt).length sc) := by rw [← hut]; simp [slK, huu]
    co_reg (TT Sh)
    co_op rl hF (co_quiet (TT Sh))
    co_opw rl hF (skip) (co_still (TT Sh))
    co_opw rl hF (have hc := cell_ext hF.1 (hrow tt _ huu2)) (refine rd_old hS hF.1 (hrow tt _ huu2) (by rfl) (fun e he => ?_); have hm := mem_listed he; simp [go_sem, *] at hm; exact hm)
    clear hc
    co_op rl hF (co_quiet (TT Sh))
    co_op rl hF (co_quiet (TT Sh))
    co_apply opsC_nil (TT Sh)
    co_then
    co_apply wpC_seq (TT Sh)
    co_reg (TT Sh)
    co_op rl hF (co_quiet (TT Sh))
    co_opw rl hF (have hm := bi1 0; have hm' := bi1E 0) (rw [listed_nil (by simp [go_sem, *])]; exact al_hd (by simp))
    have hF2 := And.intro (ext_alloc hF.1 (.cells #[.int .i64 0] 3)) (hF.2.alloc (.cells #[.int .i64 0] 3))
    co_apply opsC_append hS (by rfl) (by rfl) (.tmp 55) (.tmp 56) 24 (by rfl) (by kernel_rfl) hit hz1 hz2 hz3 (by rfl) (by omega) (by rfl) (by rfl) (by omega) (news := [.int .i64 0]) (by rfl) (by simp [Value.oneCell']) (by simp only [maxLen]; omega) (by omega) hF2 (news_at _ _ _ _ (by rfl)) (by exact hF.1.size)
    clear hF hF2 hm hm'
    intro v' w' hF
    try walk_nrm
    rw [← rep_succ] at hF
    co_op rl hF (co_quiet (TT Sh))
    co_apply opsC_nil (TT Sh)
    co_then
    co_apply wpC_seq (TT Sh)
    co_reg (TT Sh)
    co_op rl hF (co_quiet (TT Sh))
    co_opw rl hF (skip) (co_still (TT Sh))
    co_op rl hF (co_quiet (TT Sh))
    co_apply opsC_nil (TT Sh)
    co_then
    co_apply wpC_block (TT Sh)
    co_apply wpC_loop (TT Sh) (fun a' w' => ∃ (T : Array Value) (j : Nat) (kk : Nat) (u : Value), a' = ⟨T, []⟩ ∧ T.size = 159 ∧ T[1]? = some (.slice (some ⟨lp, lo, none⟩) n lcap) ∧ T[6]? = some (sE) ∧ T[8]? = some (.slice ad dn dc) ∧ T[10]? = some (u) ∧ T[11]? = some (.int .i64 (kk : Nat)) ∧ T[12]? = some (.int .i64 tt) ∧ T[48]? = some (.slice (some ⟨lp, lo, none⟩) n lcap) ∧ T[49]? = some (.int .i64 n) ∧ T[50]? = some (.int .i64 tt) ∧ T[58]? = some (.slice sa (Sk L tt).length sc) ∧ T[59]? = some (.int .i64 (Sk L tt).length) ∧ T[60]? = some (.int .i64 j) ∧ j ≤ (Sk L tt).length ∧ kk ≤ fl L tt + j ∧ fl L tt + j ≤ kk ∧ Ext Vn W w' ∧ w'.ownsRow W.heap.size 3 1 u (tt + 1) (ints (List.replicate (tt + 1) 0))) (fun a' _ => (Sk L tt).length - slotN a' 60) _ (20)
    · exact ⟨_, 0, kk, _, rfl, rfl, rfl, rfl, rfl, rfl, rfl, rfl, rfl, rfl, rfl, rfl, rfl, rfl, by omega, by omega, by omega, hF⟩
    · have := hk20 tt
      simp [slotN]
      omega
    clear hF hk1 hk2 w
    rintro a' w ⟨T, j, kk, u, rfl, hT, h1, h6, h8, h10, h11, h12, h48, h49, h50, h58, h59, h60, hj, hk1, hk2, hF⟩
    rw [arrG159 T hT]
    simp only [gv_of h1, gv_of h6, gv_of h8, gv_of h10, gv_of h11, gv_of h12, gv_of h48, gv_of h49, gv_of h50, gv_of h58, gv_of h59, gv_of h60]
    co_apply wpC_seq (TT Sh)
    co_reg (TT Sh)
    co_op rl hF (co_quiet (TT Sh))
    co_apply opsC_nil (TT Sh)
    co_then
    co_apply wpC_seq (TT Sh)
    co_split (TT Sh) (decide ((j : Int) < ((Sk L tt).length : Int)))
    · intro ht
      have hjl : j < (Sk L tt).length := by simpa using ht
      co_apply wpC_skip (TT Sh)
      co_then
      co_apply wpC_seq (TT Sh)
      co_apply wpC_block (TT Sh)
      co_apply wpC_seq (TT Sh)
      obtain ⟨sx, hsx⟩ : ∃ sx, (Sk L tt)[j]? = some sx := ⟨_, List.getElem?_eq_getElem hjl⟩
      obtain ⟨sp, so, hsa, hsc⟩ := hnt.resolve_left (fun e => by rw [e] at hjl; simp at hjl)
      have hfg := flat_get (L := L) (n := n) hil hsx
      have hke : (flat L tt).length + j = kk := by unfold fl at hk1 hk2; omega
      rw [hke] at hfg
      have hkl : kk < dn := by have := (List.getElem?_eq_some_iff.1 hfg).1; unfold fl at hdn1 hdn2; omega
      obtain ⟨db, do_, had, hdc⟩ := hD.resolve_left (fun e => by rw [e] at hfg; simp at hfg)
      have hdk := hdc kk _ hfg
      simp only [hsa, had]
      co_reg (TT Sh)
      co_opw rl hF (skip) (co_still (TT Sh))
      co_opw rl hF (have hc := cell_ext hF.1 (hsc j sx hsx)) (refine rd_old hS hF.1 (hsc j sx hsx) (by rfl) (fun e he => ?_); have hm := mem_listed he; simp [go_sem, *] at hm; exact hm)
      clear hc
      co_op rl hF (co_quiet (TT Sh))
      co_apply opsC_nil (TT Sh)
      co_then
      co_apply wpC_seq (TT Sh)
      co_apply wpC_seq (TT Sh)
      co_reg (TT Sh)
      co_op rl hF (co_quiet (TT Sh))
      co_op rl hF (co_quiet (TT Sh))
      co_op rl hF (co_quiet (TT Sh))
      have hd1 : decide ((kk : Int) ≥ (dn : Int)) = false := decide_eq_false (by omega)
      have hd2 : decide ((dn : Int) ≤ (kk : Int)) = false := decide_eq_false (by omega)
      have hd3 : decide ((kk : Int) < (dn : Int)) = true := decide_eq_true (by omega)
      have hd4 : decide (dn ≤ kk) = false := decide_eq_false (by omega)
      co_opw rl hF (skip) (rw [listed_nil (by simp [go_sem])]; exact Terms.idle (TT Sh) _)
      try simp only [hd1, hd2, hd3, hd4, Bool.not_true]
      co_op rl hF (co_quiet (TT Sh))
      co_op rl hF (co_quiet (TT Sh))
      co_op rl hF (co_quiet (TT Sh))
      co_opw rl hF (skip) (co_still (TT Sh))
      co_opw rl hF (have hc0 := cell_ext hF.1 (hdk).1; have hc1 := cell_ext hF.1 (hdk).2) (refine hdq_read (fun e he => ?_); have hm := mem_listed he; simp [go_sem, *] at hm; rcases hm with rfl | rfl; exact ⟨_, rfl, block_of_cell hc0, sh_no hS (hdk).1 (by rfl)⟩; exact ⟨_, rfl, block_of_cell hc1, sh_no hS (hdk).2 (by rfl)⟩)
      clear hc0 hc1
      co_op rl hF (co_quiet (TT Sh))
      co_op rl hF (co_quiet (TT Sh))
      co_opw rl hF (have hb := bld (tt : Int) sx; have hb' := bldE (tt : Int) sx) (rw [listed_nil (by simp [go_sem, *])]; exact Terms.idle (TT Sh) _)
      have hq1 : evq (tt : Int) sx (tt : Int) sx = true := evq_iff.2 rfl
      co_opw rl hF (have hq := eq_se (tt : Int) sx (tt : Int) sx; have hg := guardSe; have hqe := se_neq (tt : Int) sx (tt : Int) sx; have hge := ee3s (tt : Int) sx (tt : Int) sx) (rw [listed_nil (by simp [go_sem, *])]; exact Terms.idle (TT Sh) _)
      try simp only [hq1, Bool.not_true]
      co_op rl hF (co_quiet (TT Sh))
      co_apply opsC_nil (TT Sh)
      co_then
      co_apply wpC_cond (TT Sh) (t := false)
      · simp [Act.eval, hq1]
      simp only [if_false, reduceIte, Bool.false_eq_true]
      co_apply wpC_skip (TT Sh)
      co_then
      have hwkk : IntKind.i64.wrap ((kk : Int) + 1) = ((kk + 1 : Nat) : Int) := by rw [IntKind.wrap_i64]; omega
      have hwj : IntKind.i64.wrap ((j : Int) + 1) = ((j + 1 : Nat) : Int) := by rw [IntKind.wrap_i64]; omega
      co_reg (TT Sh)
      co_op rl hF (co_quiet (TT Sh))
      co_op rl hF (co_quiet (TT Sh))
      co_op rl hF (co_quiet (TT Sh))
      co_apply opsC_nil (TT Sh)
      co_then
      co_reg (TT Sh)
      co_op rl hF (co_quiet (TT Sh))
      co_op rl hF (co_quiet (TT Sh))
      co_apply opsC_nil (TT Sh)
      co_then
      refine ⟨⟨_, j + 1, kk + 1, _, rfl, rfl, by first | rfl | simp [hsa, had, hwkk, hwj], by first | rfl | simp [hsa, had, hwkk, hwj], by first | rfl | simp [hsa, had, hwkk, hwj], by first | rfl | simp [hsa, had, hwkk, hwj], by first | rfl | simp [hsa, had, hwkk, hwj], by first | rfl | simp [hsa, had, hwkk, hwj], by first | rfl | simp [hsa, had, hwkk, hwj], by first | rfl | simp [hsa, had, hwkk, hwj], by first | rfl | simp [hsa, had, hwkk, hwj], by first | rfl | simp [hsa, had, hwkk, hwj], by first | rfl | simp [hsa, had, hwkk, hwj], by first | rfl | simp [hsa, had, hwkk, hwj], by omega, by omega, by omega, hF⟩, ?_⟩
      simp [slotN, hwj]
      omega
    · intro ht
      have hjl : j = (Sk L tt).length := by have : ¬ j < (Sk L tt).length := (by simpa using ht); omega
      co_apply wpC_exit (TT Sh)
      co_then
      have hfs := fl_succ L tt
      have hwtt : IntKind.i64.wrap ((tt : Int) + 1) = ((tt + 1 : Nat) : Int) := by rw [IntKind.wrap_i64]; omega
      co_reg (TT Sh)
      co_op rl hF (co_quiet (TT Sh))
      co_op rl hF (co_quiet (TT Sh))
      co_apply opsC_nil (TT Sh)
      co_then
      refine ⟨⟨_, tt + 1, kk, _, rfl, rfl, by first | rfl | simp [hwtt], by first | rfl | simp [hwtt], by first | rfl | simp [hwtt], by first | rfl | simp [hwtt], by first | rfl | simp [hwtt], by first | rfl | simp [hwtt], by first | rfl | simp [hwtt], by first | rfl | simp [hwtt], by omega, by omega, by omega, hF⟩, ?_⟩
      simp [slotN, hwtt]
      omega
  · intro ht
    have hil : tt = n := by have : ¬ tt < n := (by simpa using ht); omega
    co_apply wpC_exit (TT Sh)
    co_then
    have hkd : kk = dn := by rw [hil] at hk1 hk2; omega
    have hF3 := hF
    rw [hil] at hF3
    refine ⟨_, _, rfl, rfl, rfl, rfl, rfl, rfl, by first | rfl | simp [hkd], hF3⟩
end
end Go.Proofs.Ytggfcdhkgldbfaa
