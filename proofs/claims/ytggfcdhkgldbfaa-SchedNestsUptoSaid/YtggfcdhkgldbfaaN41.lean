/-
  PARTS of a claim, merged by segs.py: NwNe2.
-/
import Derived.Test.YtggfcdhkgldbfaaN40
import Derived.Test.YtggfcdhkgldbfaaN34
namespace Go.Proofs.Ytggfcdhkgldbfaa
set_option linter.unusedSimpArgs false
set_option linter.unusedVariables false

/-! ### NwNe2 -/
section
set_option linter.unusedSimpArgs false
open Go Go.Conc Go.RowKit Go.ConcR.Gen Cw

/-- A merge of [0, 1] and [2, 3, 4], from some place on. -/
inductive Mg : Nat → Nat → List Nat → Prop where
  | done : Mg 2 3 []
  | l (a b : Nat) (r : List Nat) : a < 2 → Mg (a + 1) b r → Mg a b (a :: r)
  | r (a b : Nat) (r : List Nat) : b < 3 → Mg a (b + 1) r → Mg a b ((b + 2) :: r)
theorem mg_len {a b : Nat} {l : List Nat} (h : Mg a b l) : a + b + l.length = 5 := by
  induction h with
  | done => rfl
  | l a b r _ _ ih => simp only [List.length_cons]; omega
  | r a b r _ _ ih => simp only [List.length_cons]; omega
def tlE (l : List Nat) : Prop := l = [7, 8, 9, 10] ∨ l = [8, 7, 9, 10] ∨ l = [7, 9, 8, 10]
theorem enumE : ((enum .any opsE1 11 (Array.replicate 11 false)).all fun S => ([[0, 1, 2, 3, 4, 5, 6, 7, 8, 9, 10], [0, 1, 2, 3, 4, 5, 6, 8, 7, 9, 10], [0, 1, 2, 3, 4, 5, 6, 7, 9, 8, 10], [0, 2, 1, 3, 4, 5, 6, 7, 8, 9, 10], [0, 2, 1, 3, 4, 5, 6, 8, 7, 9, 10], [0, 2, 1, 3, 4, 5, 6, 7, 9, 8, 10], [0, 2, 3, 1, 4, 5, 6, 7, 8, 9, 10], [0, 2, 3, 1, 4, 5, 6, 8, 7, 9, 10], [0, 2, 3, 1, 4, 5, 6, 7, 9, 8, 10], [0, 2, 3, 4, 1, 5, 6, 7, 8, 9, 10], [0, 2, 3, 4, 1, 5, 6, 8, 7, 9, 10], [0, 2, 3, 4, 1, 5, 6, 7, 9, 8, 10], [2, 0, 1, 3, 4, 5, 6, 7, 8, 9, 10], [2, 0, 1, 3, 4, 5, 6, 8, 7, 9, 10], [2, 0, 1, 3, 4, 5, 6, 7, 9, 8, 10], [2, 0, 3, 1, 4, 5, 6, 7, 8, 9, 10], [2, 0, 3, 1, 4, 5, 6, 8, 7, 9, 10], [2, 0, 3, 1, 4, 5, 6, 7, 9, 8, 10], [2, 0, 3, 4, 1, 5, 6, 7, 8, 9, 10], [2, 0, 3, 4, 1, 5, 6, 8, 7, 9, 10], [2, 0, 3, 4, 1, 5, 6, 7, 9, 8, 10], [2, 3, 0, 1, 4, 5, 6, 7, 8, 9, 10], [2, 3, 0, 1, 4, 5, 6, 8, 7, 9, 10], [2, 3, 0, 1, 4, 5, 6, 7, 9, 8, 10], [2, 3, 0, 4, 1, 5, 6, 7, 8, 9, 10], [2, 3, 0, 4, 1, 5, 6, 8, 7, 9, 10], [2, 3, 0, 4, 1, 5, 6, 7, 9, 8, 10], [2, 3, 4, 0, 1, 5, 6, 7, 8, 9, 10], [2, 3, 4, 0, 1, 5, 6, 8, 7, 9, 10], [2, 3, 4, 0, 1, 5, 6, 7, 9, 8, 10]] : List (List Nat)).contains S) = true := by kernel_rfl
theorem ordE {S : List Nat} (h : S ∈ enum .any opsE1 11 (Array.replicate 11 false)) : ∃ p tl, Mg 0 0 p ∧ tlE tl ∧ S = p ++ 5 :: 6 :: tl := by
  have h1 := List.all_eq_true.1 enumE S h
  have h2 : S ∈ ([[0, 1, 2, 3, 4, 5, 6, 7, 8, 9, 10], [0, 1, 2, 3, 4, 5, 6, 8, 7, 9, 10], [0, 1, 2, 3, 4, 5, 6, 7, 9, 8, 10], [0, 2, 1, 3, 4, 5, 6, 7, 8, 9, 10], [0, 2, 1, 3, 4, 5, 6, 8, 7, 9, 10], [0, 2, 1, 3, 4, 5, 6, 7, 9, 8, 10], [0, 2, 3, 1, 4, 5, 6, 7, 8, 9, 10], [0, 2, 3, 1, 4, 5, 6, 8, 7, 9, 10], [0, 2, 3, 1, 4, 5, 6, 7, 9, 8, 10], [0, 2, 3, 4, 1, 5, 6, 7, 8, 9, 10], [0, 2, 3, 4, 1, 5, 6, 8, 7, 9, 10], [0, 2, 3, 4, 1, 5, 6, 7, 9, 8, 10], [2, 0, 1, 3, 4, 5, 6, 7, 8, 9, 10], [2, 0, 1, 3, 4, 5, 6, 8, 7, 9, 10], [2, 0, 1, 3, 4, 5, 6, 7, 9, 8, 10], [2, 0, 3, 1, 4, 5, 6, 7, 8, 9, 10], [2, 0, 3, 1, 4, 5, 6, 8, 7, 9, 10], [2, 0, 3, 1, 4, 5, 6, 7, 9, 8, 10], [2, 0, 3, 4, 1, 5, 6, 7, 8, 9, 10], [2, 0, 3, 4, 1, 5, 6, 8, 7, 9, 10], [2, 0, 3, 4, 1, 5, 6, 7, 9, 8, 10], [2, 3, 0, 1, 4, 5, 6, 7, 8, 9, 10], [2, 3, 0, 1, 4, 5, 6, 8, 7, 9, 10], [2, 3, 0, 1, 4, 5, 6, 7, 9, 8, 10], [2, 3, 0, 4, 1, 5, 6, 7, 8, 9, 10], [2, 3, 0, 4, 1, 5, 6, 8, 7, 9, 10], [2, 3, 0, 4, 1, 5, 6, 7, 9, 8, 10], [2, 3, 4, 0, 1, 5, 6, 7, 8, 9, 10], [2, 3, 4, 0, 1, 5, 6, 8, 7, 9, 10], [2, 3, 4, 0, 1, 5, 6, 7, 9, 8, 10]] : List (List Nat)) := by simpa using h1
  simp only [List.mem_cons, List.not_mem_nil, or_false] at h2
  rcases h2 with rfl | rfl | rfl | rfl | rfl | rfl | rfl | rfl | rfl | rfl | rfl | rfl | rfl | rfl | rfl | rfl | rfl | rfl | rfl | rfl | rfl | rfl | rfl | rfl | rfl | rfl | rfl | rfl | rfl | rfl
  · exact ⟨[0, 1, 2, 3, 4], [7, 8, 9, 10], (.l _ _ _ (by decide) (.l _ _ _ (by decide) (.r _ _ _ (by decide) (.r _ _ _ (by decide) (.r _ _ _ (by decide) .done))))), (.inl rfl), rfl⟩
  · exact ⟨[0, 1, 2, 3, 4], [8, 7, 9, 10], (.l _ _ _ (by decide) (.l _ _ _ (by decide) (.r _ _ _ (by decide) (.r _ _ _ (by decide) (.r _ _ _ (by decide) .done))))), (.inr (.inl rfl)), rfl⟩
  · exact ⟨[0, 1, 2, 3, 4], [7, 9, 8, 10], (.l _ _ _ (by decide) (.l _ _ _ (by decide) (.r _ _ _ (by decide) (.r _ _ _ (by decide) (.r _ _ _ (by decide) .done))))), (.inr (.inr rfl)), rfl⟩
  · exact ⟨[0, 2, 1, 3, 4], [7, 8, 9, 10], (.l _ _ _ (by decide) (.r _ _ _ (by decide) (.l _ _ _ (by decide) (.r _ _ _ (by decide) (.r _ _ _ (by decide) .done))))), (.inl rfl), rfl⟩
  · exact ⟨[0, 2, 1, 3, 4], [8, 7, 9, 10], (.l _ _ _ (by decide) (.r _ _ _ (by decide) (.l _ _ _ (by decide) (.r _ _ _ (by decide) (.r _ _ _ (by decide) .done))))), (.inr (.inl rfl)), rfl⟩
  · exact ⟨[0, 2, 1, 3, 4], [7, 9, 8, 10], (.l _ _ _ (by decide) (.r _ _ _ (by decide) (.l _ _ _ (by decide) (.r _ _ _ (by decide) (.r _ _ _ (by decide) .done))))), (.inr (.inr rfl)), rfl⟩
  · exact ⟨[0, 2, 3, 1, 4], [7, 8, 9, 10], (.l _ _ _ (by decide) (.r _ _ _ (by decide) (.r _ _ _ (by decide) (.l _ _ _ (by decide) (.r _ _ _ (by decide) .done))))), (.inl rfl), rfl⟩
  · exact ⟨[0, 2, 3, 1, 4], [8, 7, 9, 10], (.l _ _ _ (by decide) (.r _ _ _ (by decide) (.r _ _ _ (by decide) (.l _ _ _ (by decide) (.r _ _ _ (by decide) .done))))), (.inr (.inl rfl)), rfl⟩
  · exact ⟨[0, 2, 3, 1, 4], [7, 9, 8, 10], (.l _ _ _ (by decide) (.r _ _ _ (by decide) (.r _ _ _ (by decide) (.l _ _ _ (by decide) (.r _ _ _ (by decide) .done))))), (.inr (.inr rfl)), rfl⟩
  · exact ⟨[0, 2, 3, 4, 1], [7, 8, 9, 10], (.l _ _ _ (by decide) (.r _ _ _ (by decide) (.r _ _ _ (by decide) (.r _ _ _ (by decide) (.l _ _ _ (by decide) .done))))), (.inl rfl), rfl⟩
  · exact ⟨[0, 2, 3, 4, 1], [8, 7, 9, 10], (.l _ _ _ (by decide) (.r _ _ _ (by decide) (.r _ _ _ (by decide) (.r _ _ _ (by decide) (.l _ _ _ (by decide) .done))))), (.inr (.inl rfl)), rfl⟩
  · exact ⟨[0, 2, 3, 4, 1], [7, 9, 8, 10], (.l _ _ _ (by decide) (.r _ _ _ (by decide) (.r _ _ _ (by decide) (.r _ _ _ (by decide) (.l _ _ _ (by decide) .done))))), (.inr (.inr rfl)), rfl⟩
  · exact ⟨[2, 0, 1, 3, 4], [7, 8, 9, 10], (.r _ _ _ (by decide) (.l _ _ _ (by decide) (.l _ _ _ (by decide) (.r _ _ _ (by decide) (.r _ _ _ (by decide) .done))))), (.inl rfl), rfl⟩
  · exact ⟨[2, 0, 1, 3, 4], [8, 7, 9, 10], (.r _ _ _ (by decide) (.l _ _ _ (by decide) (.l _ _ _ (by decide) (.r _ _ _ (by decide) (.r _ _ _ (by decide) .done))))), (.inr (.inl rfl)), rfl⟩
  · exact ⟨[2, 0, 1, 3, 4], [7, 9, 8, 10], (.r _ _ _ (by decide) (.l _ _ _ (by decide) (.l _ _ _ (by decide) (.r _ _ _ (by decide) (.r _ _ _ (by decide) .done))))), (.inr (.inr rfl)), rfl⟩
  · exact ⟨[2, 0, 3, 1, 4], [7, 8, 9, 10], (.r _ _ _ (by decide) (.l _ _ _ (by decide) (.r _ _ _ (by decide) (.l _ _ _ (by decide) (.r _ _ _ (by decide) .done))))), (.inl rfl), rfl⟩
  · exact ⟨[2, 0, 3, 1, 4], [8, 7, 9, 10], (.r _ _ _ (by decide) (.l _ _ _ (by decide) (.r _ _ _ (by decide) (.l _ _ _ (by decide) (.r _ _ _ (by decide) .done))))), (.inr (.inl rfl)), rfl⟩
  · exact ⟨[2, 0, 3, 1, 4], [7, 9, 8, 10], (.r _ _ _ (by decide) (.l _ _ _ (by decide) (.r _ _ _ (by decide) (.l _ _ _ (by decide) (.r _ _ _ (by decide) .done))))), (.inr (.inr rfl)), rfl⟩
  · exact ⟨[2, 0, 3, 4, 1], [7, 8, 9, 10], (.r _ _ _ (by decide) (.l _ _ _ (by decide) (.r _ _ _ (by decide) (.r _ _ _ (by decide) (.l _ _ _ (by decide) .done))))), (.inl rfl), rfl⟩
  · exact ⟨[2, 0, 3, 4, 1], [8, 7, 9, 10], (.r _ _ _ (by decide) (.l _ _ _ (by decide) (.r _ _ _ (by decide) (.r _ _ _ (by decide) (.l _ _ _ (by decide) .done))))), (.inr (.inl rfl)), rfl⟩
  · exact ⟨[2, 0, 3, 4, 1], [7, 9, 8, 10], (.r _ _ _ (by decide) (.l _ _ _ (by decide) (.r _ _ _ (by decide) (.r _ _ _ (by decide) (.l _ _ _ (by decide) .done))))), (.inr (.inr rfl)), rfl⟩
  · exact ⟨[2, 3, 0, 1, 4], [7, 8, 9, 10], (.r _ _ _ (by decide) (.r _ _ _ (by decide) (.l _ _ _ (by decide) (.l _ _ _ (by decide) (.r _ _ _ (by decide) .done))))), (.inl rfl), rfl⟩
  · exact ⟨[2, 3, 0, 1, 4], [8, 7, 9, 10], (.r _ _ _ (by decide) (.r _ _ _ (by decide) (.l _ _ _ (by decide) (.l _ _ _ (by decide) (.r _ _ _ (by decide) .done))))), (.inr (.inl rfl)), rfl⟩
  · exact ⟨[2, 3, 0, 1, 4], [7, 9, 8, 10], (.r _ _ _ (by decide) (.r _ _ _ (by decide) (.l _ _ _ (by decide) (.l _ _ _ (by decide) (.r _ _ _ (by decide) .done))))), (.inr (.inr rfl)), rfl⟩
  · exact ⟨[2, 3, 0, 4, 1], [7, 8, 9, 10], (.r _ _ _ (by decide) (.r _ _ _ (by decide) (.l _ _ _ (by decide) (.r _ _ _ (by decide) (.l _ _ _ (by decide) .done))))), (.inl rfl), rfl⟩
  · exact ⟨[2, 3, 0, 4, 1], [8, 7, 9, 10], (.r _ _ _ (by decide) (.r _ _ _ (by decide) (.l _ _ _ (by decide) (.r _ _ _ (by decide) (.l _ _ _ (by decide) .done))))), (.inr (.inl rfl)), rfl⟩
  · exact ⟨[2, 3, 0, 4, 1], [7, 9, 8, 10], (.r _ _ _ (by decide) (.r _ _ _ (by decide) (.l _ _ _ (by decide) (.r _ _ _ (by decide) (.l _ _ _ (by decide) .done))))), (.inr (.inr rfl)), rfl⟩
  · exact ⟨[2, 3, 4, 0, 1], [7, 8, 9, 10], (.r _ _ _ (by decide) (.r _ _ _ (by decide) (.r _ _ _ (by decide) (.l _ _ _ (by decide) (.l _ _ _ (by decide) .done))))), (.inl rfl), rfl⟩
  · exact ⟨[2, 3, 4, 0, 1], [8, 7, 9, 10], (.r _ _ _ (by decide) (.r _ _ _ (by decide) (.r _ _ _ (by decide) (.l _ _ _ (by decide) (.l _ _ _ (by decide) .done))))), (.inr (.inl rfl)), rfl⟩
  · exact ⟨[2, 3, 4, 0, 1], [7, 9, 8, 10], (.r _ _ _ (by decide) (.r _ _ _ (by decide) (.r _ _ _ (by decide) (.l _ _ _ (by decide) (.l _ _ _ (by decide) .done))))), (.inr (.inr rfl)), rfl⟩
section
variable {X : Cx} {V : Nat → Prop} {W : World} {nb : Nat} {pv lv yf : Value} {n kc m : Nat} {xs : List Value} {Stop : Goroutine → World → Prop} {T : Array Value} {rest : List Nat} {k : List Item} {cs : List Frame} {w : World}
/-- Where the region stands. -/
structure Es (V : Nat → Prop) (W : World) (nb : Nat) (pv lv yf : Value) (n : Nat) (xs : List Value) (a b : Nat) (r : Value) (T : Array Value) (w : World) : Prop where
  sz : T.size = 28
  t1 : T[1]? = some yf
  t2 : T[2]? = some (pb nb)
  t9 : 1 ≤ a → T[9]? = some (pb nb)
  t10 : 2 ≤ a → T[10]? = some pv
  t11 : 1 ≤ b → T[11]? = some (.pointer (some ⟨nb, 1, none⟩))
  t12 : 2 ≤ b → T[12]? = some lv
  t13 : 3 ≤ b → T[13]? = some r ∧ w.ownsRow W.heap.size 50 1 r n xs
  ext : Ext V W w
theorem Es.rl (hv : ∀ b, W.heap.size ≤ b → ¬ V b) {a b : Nat} {r : Value} {w' : World} (h : Es V W nb pv lv yf n xs a b r T w) (e : Ext V w w') : Es V W nb pv lv yf n xs a b r T w' :=
  ⟨h.sz, h.t1, h.t2, h.t9, h.t10, h.t11, h.t12, fun hb => ⟨(h.t13 hb).1, ownsRow_ext (h.t13 hb).2 e fun g hg => hv g ((h.t13 hb).2.lt g hg).1⟩, h.ext.trans e⟩
set_option maxRecDepth 100000 in
theorem e0 (hS : Wd X V W) {a b : Nat} {r : Value} (hF : Es V W nb pv lv yf n xs a b r T w)
    (hN : ∀ T', Put T 9 (pb nb) T' → ∀ w', Es V W nb pv lv yf n xs a b r T w' → Goes Try.prog false (Ext V) (HDq X) Stop m (G (fNe T' (.inRegion opsE1 rest :: k)) cs) w') :
    Goes Try.prog false (Ext V) (HDq X) Stop (m + 1) (G (fNe T (.inRegion opsE1 (0 :: rest) :: k)) cs) w := by
  refine Goes.step rfl (fun w hr => ?_)
  replace hF := hF.rl (fun _ => hS.own) hr
  clear hr
  have g2 := getD_of hF.t2
  have hsz := hF.sz
  revert hN
  simp only [fNe, opsE1, bodyE, rt, lf, opsOf, Try.f67, Option.getD_some]
  intro hN
  refine goes_oper_k rfl rfl (by k_ne) (fun K hK => ?_)
  go_simp
  refine hK _ _ ⟨?_, ?_⟩
  · rw [listed_nil (by simp [go_sem, *])]; exact hdq_idle _ _
  · exact hN _ (put_set _ (by omega)) _ hF
set_option maxRecDepth 100000 in
theorem e1 (hS : Wd X V W) (hb : W.heap[nb]? = some (Obj.cells #[pv, lv] 43 (0, 0))) (hpn : notWg pv = true) (hln : notWg lv = true) {a b : Nat} {r : Value} (ha : 1 ≤ a) (hF : Es V W nb pv lv yf n xs a b r T w)
    (hN : ∀ T', Put T 10 (pv) T' → ∀ w', Es V W nb pv lv yf n xs a b r T w' → Goes Try.prog false (Ext V) (HDq X) Stop m (G (fNe T' (.inRegion opsE1 rest :: k)) cs) w') :
    Goes Try.prog false (Ext V) (HDq X) Stop (m + 1) (G (fNe T (.inRegion opsE1 (1 :: rest) :: k)) cs) w := by
  refine Goes.step rfl (fun w hr => ?_)
  replace hF := hF.rl (fun _ => hS.own) hr
  clear hr
  have g9 := getD_of (hF.t9 ha)
  have hc0 : W.cell? ⟨nb, 0, none⟩ = some pv := by simp [World.cell?, hb]
  have hc := cell_extg hS hF.ext hc0 hpn
  have hsz := hF.sz
  revert hN
  simp only [fNe, opsE1, bodyE, rt, lf, opsOf, Try.f67, Option.getD_some]
  intro hN
  refine goes_oper_k rfl rfl (by k_ne) (fun K hK => ?_)
  go_simp
  refine hK _ _ ⟨?_, ?_⟩
  · refine rd_oldg hS hF.ext hc0 hpn (fun e he => ?_)
    have hm := mem_listed he
    simp [go_sem, *] at hm
    exact hm
  · exact hN _ (put_set _ (by omega)) _ hF
set_option maxRecDepth 100000 in
theorem e2 (hS : Wd X V W) {a b : Nat} {r : Value} (hF : Es V W nb pv lv yf n xs a b r T w)
    (hN : ∀ T', Put T 11 (.pointer (some ⟨nb, 1, none⟩)) T' → ∀ w', Es V W nb pv lv yf n xs a b r T w' → Goes Try.prog false (Ext V) (HDq X) Stop m (G (fNe T' (.inRegion opsE1 rest :: k)) cs) w') :
    Goes Try.prog false (Ext V) (HDq X) Stop (m + 1) (G (fNe T (.inRegion opsE1 (2 :: rest) :: k)) cs) w := by
  refine Goes.step rfl (fun w hr => ?_)
  replace hF := hF.rl (fun _ => hS.own) hr
  clear hr
  have g2 := getD_of hF.t2
  have hsz := hF.sz
  revert hN
  simp only [fNe, opsE1, bodyE, rt, lf, opsOf, Try.f67, Option.getD_some]
  intro hN
  refine goes_oper_k rfl rfl (by k_ne) (fun K hK => ?_)
  go_simp
  refine hK _ _ ⟨?_, ?_⟩
  · rw [listed_nil (by simp [go_sem, *])]; exact hdq_idle _ _
  · exact hN _ (put_set _ (by omega)) _ hF
set_option maxRecDepth 100000 in
theorem e3 (hS : Wd X V W) (hb : W.heap[nb]? = some (Obj.cells #[pv, lv] 43 (0, 0))) (hpn : notWg pv = true) (hln : notWg lv = true) {a b : Nat} {r : Value} (hb1 : 1 ≤ b) (hF : Es V W nb pv lv yf n xs a b r T w)
    (hN : ∀ T', Put T 12 (lv) T' → ∀ w', Es V W nb pv lv yf n xs a b r T w' → Goes Try.prog false (Ext V) (HDq X) Stop m (G (fNe T' (.inRegion opsE1 rest :: k)) cs) w') :
    Goes Try.prog false (Ext V) (HDq X) Stop (m + 1) (G (fNe T (.inRegion opsE1 (3 :: rest) :: k)) cs) w := by
  refine Goes.step rfl (fun w hr => ?_)
  replace hF := hF.rl (fun _ => hS.own) hr
  clear hr
  have g11 := getD_of (hF.t11 hb1)
  have hc0 : W.cell? ⟨nb, 1, none⟩ = some lv := by simp [World.cell?, hb]
  have hc := cell_extg hS hF.ext hc0 hln
  have hsz := hF.sz
  revert hN
  simp only [fNe, opsE1, bodyE, rt, lf, opsOf, Try.f67, Option.getD_some]
  intro hN
  refine goes_oper_k rfl rfl (by k_ne) (fun K hK => ?_)
  go_simp
  refine hK _ _ ⟨?_, ?_⟩
  · refine rd_oldg hS hF.ext hc0 hln (fun e he => ?_)
    have hm := mem_listed he
    simp [go_sem, *] at hm
    exact hm
  · exact hN _ (put_set _ (by omega)) _ hF
set_option maxRecDepth 100000 in
theorem e4 (hS : Wd X V W) (hkc : ∀ w, Ext V W w → CallsC Try.prog false (Ext V) (HDq X) 11 #[lv] kc w (fun r w' => Ext V W w' ∧ w'.ownsRow W.heap.size 50 1 r n xs)) {a b : Nat} {r : Value} (hb1 : 2 ≤ b) (hF : Es V W nb pv lv yf n xs a b r T w)
    (hN : ∀ T' r', Put T 13 r' T' → ∀ w', Ext V W w' ∧ w'.ownsRow W.heap.size 50 1 r' n xs → Goes Try.prog false (Ext V) (HDq X) Stop m (G (fNe T' (.inRegion opsE1 rest :: k)) cs) w') :
    Goes Try.prog false (Ext V) (HDq X) Stop (m + kc + 3) (G (fNe T (.inRegion opsE1 (4 :: rest) :: k)) cs) w := by
  have g12 := getD_of (hF.t12 hb1)
  have hsz := hF.sz
  revert hN
  simp only [fNe, opsE1, bodyE, rt, lf, opsOf, Try.f67, Option.getD_some]
  intro hN
  refine Goes.call (TTg X V) (f := 11) (args := #[.tmp 12]) (ats := #[23]) rfl rfl (by k_ne) rfl (by simp only [List.map_toArray, List.map_cons, List.map_nil, Act.eval, g12]; exact hkc _ hF.ext) (fun r' w' hv => ?_)
  exact hN _ r' (put_set _ (by omega)) w' hv
/-- The reads and the call of tasks, in whatever order. -/
theorem e_mg (hS : Wd X V W) (hb : W.heap[nb]? = some (Obj.cells #[pv, lv] 43 (0, 0))) (hpn : notWg pv = true) (hln : notWg lv = true) (hkc : ∀ w, Ext V W w → CallsC Try.prog false (Ext V) (HDq X) 11 #[lv] kc w (fun r w' => Ext V W w' ∧ w'.ownsRow W.heap.size 50 1 r n xs))
    (hN : ∀ T' r' w', Es V W nb pv lv yf n xs 2 3 r' T' w' → Goes Try.prog false (Ext V) (HDq X) Stop m (G (fNe T' (.inRegion opsE1 rest :: k)) cs) w') :
    ∀ {a b : Nat} {l : List Nat}, Mg a b l → ∀ (r : Value) (T : Array Value) (w : World), Es V W nb pv lv yf n xs a b r T w → Goes Try.prog false (Ext V) (HDq X) Stop (m + l.length * (kc + 3)) (G (fNe T (.inRegion opsE1 (l ++ rest) :: k)) cs) w := by
  intro a b l h
  induction h with
  | done => intro r T w hF; exact Goes.mono (hN T r w hF) (by simp)
  | l a b l ha _ ih =>
    intro r T w hF
    have hle : ∀ x : Nat, x + l.length * (kc + 3) + 1 ≤ x + (a :: l).length * (kc + 3) := fun x => by simp only [List.length_cons, Nat.add_mul]; omega
    rcases (show a = 0 ∨ a = 1 by omega) with rfl | rfl
    · exact Goes.mono (e0 hS hF fun T' p w' h => ih r T' w' ⟨p.1.trans h.sz, (p.2.2 1 (by decide)).trans h.t1, (p.2.2 2 (by decide)).trans h.t2, fun _ => p.2.1, fun h => absurd h (by omega), fun x => (p.2.2 11 (by decide)).trans (h.t11 x), fun x => (p.2.2 12 (by decide)).trans (h.t12 x), fun x => ⟨(p.2.2 13 (by decide)).trans (h.t13 x).1, (h.t13 x).2⟩, h.ext⟩) (hle m)
    · exact Goes.mono (e1 hS hb hpn hln (Nat.le_refl 1) hF fun T' p w' h => ih r T' w' ⟨p.1.trans h.sz, (p.2.2 1 (by decide)).trans h.t1, (p.2.2 2 (by decide)).trans h.t2, fun x => (p.2.2 9 (by decide)).trans (h.t9 (Nat.le_refl 1)), fun _ => p.2.1, fun x => (p.2.2 11 (by decide)).trans (h.t11 x), fun x => (p.2.2 12 (by decide)).trans (h.t12 x), fun x => ⟨(p.2.2 13 (by decide)).trans (h.t13 x).1, (h.t13 x).2⟩, h.ext⟩) (hle m)
  | r a b l hb3 _ ih =>
    intro r T w hF
    have hle : ∀ x : Nat, x + l.length * (kc + 3) + 1 ≤ x + ((b + 2) :: l).length * (kc + 3) := fun x => by simp only [List.length_cons, Nat.add_mul]; omega
    have hle2 : ∀ x : Nat, x + l.length * (kc + 3) + kc + 3 ≤ x + ((b + 2) :: l).length * (kc + 3) := fun x => by simp only [List.length_cons, Nat.add_mul]; omega
    rcases (show b = 0 ∨ b = 1 ∨ b = 2 by omega) with rfl | rfl | rfl
    · exact Goes.mono (e2 hS hF fun T' p w' h => ih r T' w' ⟨p.1.trans h.sz, (p.2.2 1 (by decide)).trans h.t1, (p.2.2 2 (by decide)).trans h.t2, fun x => (p.2.2 9 (by decide)).trans (h.t9 x), fun x => (p.2.2 10 (by decide)).trans (h.t10 x), fun _ => p.2.1, fun h => absurd h (by omega), fun h => absurd h (by omega), h.ext⟩) (hle m)
    · exact Goes.mono (e3 hS hb hpn hln (Nat.le_refl 1) hF fun T' p w' h => ih r T' w' ⟨p.1.trans h.sz, (p.2.2 1 (by decide)).trans h.t1, (p.2.2 2 (by decide)).trans h.t2, fun x => (p.2.2 9 (by decide)).trans (h.t9 x), fun x => (p.2.2 10 (by decide)).trans (h.t10 x), fun _ => (p.2.2 11 (by decide)).trans (h.t11 (Nat.le_refl 1)), fun _ => p.2.1, fun h => absurd h (by omega), h.ext⟩) (hle m)
    · exact Goes.mono (e4 hS hkc (Nat.le_refl 2) hF fun T' r' p w' h => ih r' T' w' ⟨p.1.trans hF.sz, (p.2.2 1 (by decide)).trans hF.t1, (p.2.2 2 (by decide)).trans hF.t2, fun x => (p.2.2 9 (by decide)).trans (hF.t9 x), fun x => (p.2.2 10 (by decide)).trans (hF.t10 x), fun _ => (p.2.2 11 (by decide)).trans (hF.t11 (by omega)), fun _ => (p.2.2 12 (by decide)).trans (hF.t12 (by omega)), fun _ => ⟨p.2.1, h.2⟩, h.1⟩) (hle2 m)
set_option maxRecDepth 100000 in
set_option maxHeartbeats 4000000 in
/-- To the entry of sched.Run. -/
theorem e_run (hS : Wd X V W) (hb : W.heap[nb]? = some (Obj.cells #[pv, lv] 43 (0, 0))) (hpn : notWg pv = true) (hln : notWg lv = true) (hkc : ∀ w, Ext V W w → CallsC Try.prog false (Ext V) (HDq X) 11 #[lv] kc w (fun r w' => Ext V W w' ∧ w'.ownsRow W.heap.size 50 1 r n xs))
    (cs : List Frame) (T : Array Value) (hT : T.size = 28) (h1 : T[1]? = some yf) (h2 : T[2]? = some (pb nb)) (w : World) (hw : Ext V W w) :
    Goes Try.prog false (Ext V) (HDq X) (fun g w => ∃ T r tl, tlE tl ∧ (T.size = 28 ∧ T[1]? = some yf) ∧ g = G (fRun (entryT pv r) [.code bodyM]) (fNe T (.inRegion opsE1 (5 :: 6 :: tl) :: [.code (rt (rt bodyE))]) :: cs) ∧ Ext V W w ∧ w.ownsRow W.heap.size 50 1 r n xs) (5 + 5 * (kc + 3) + 5) (G (fNe T [.code (rt bodyE)]) cs) w := by
  have e1 : rt bodyE = .seq (.region 1 opsE1 true) (rt (rt bodyE)) := by
    simp only [fNe, opsE1, bodyE, rt, lf, opsOf, Try.f67, Option.getD_some]
  have hs11 : opsE1.size = 11 := by kernel_rfl
  rw [e1]
  refine Goes.step rfl (fun w hr => ?_)
  replace hw := hw.trans hr
  clear hr
  rw [stepG_seq]
  simp only [goes_go]
  refine ⟨hdq_idle _ _, ?_⟩
  refine Goes.step rfl (fun w hr => ?_)
  replace hw := hw.trans hr
  clear hr
  rw [stepG_region_draw]
  simp only [goes_go]
  refine ⟨hdq_draw _ _, ?_⟩
  have hO := sched_in opsE1 (w.tape w.drawn (.order (base 67).fn 1))
  rw [hs11] at hO
  generalize Region.schedule (Try.prog.follows .mixedOrders) opsE1 _ = S at hO
  obtain ⟨p, tl, hp, htl, rfl⟩ := ordE hO
  replace hw : Ext V W { w with drawn := w.drawn + 1 } := hw.trans (Ext.at V w _)
  generalize ({ w with drawn := w.drawn + 1 } : World) = w at *
  have hlen : p.length = 5 := by
    have := mg_len hp
    omega
  refine Goes.mono (e_mg (m := 5) hS hb hpn hln hkc (fun T' r' w' h => ?_) hp (.slice none 0 0) T w ⟨hT, h1, h2, fun h => absurd h (by omega), fun h => absurd h (by omega), fun h => absurd h (by omega), fun h => absurd h (by omega), fun h => absurd h (by omega), hw⟩) (by rw [hlen]; omega)
  refine Goes.step rfl (fun w hr => ?_)
  have hE := h.rl (fun _ => hS.own) hr
  clear hr
  have g10 := getD_of (hE.t10 (Nat.le_refl 2))
  have g13 := getD_of (hE.t13 (Nat.le_refl 3)).1
  obtain ⟨ps, ho⟩ : ∃ ps, opsE1[5]? = some { dst := some 14, op := .call { callee := .value (.func 10), args := #[.tmp 10, .tmp 13], argTypes := #[24, 32] }, type := ((opsE1[5]?).map (·.type)).getD 0, pos := ps, after := ((opsE1[5]?).map (·.after)).getD #[], guard := none } := by
    refine ⟨((opsE1[5]?).map (fun o => o.pos)).getD "", ?_⟩
    simp only [fNe, opsE1, bodyE, rt, lf, opsOf, Try.f67, Option.getD_some]
    rfl
  refine goes_call (c := bodyM) (f := 10) (args := #[.tmp 10, .tmp 13]) (ats := #[24, 32]) ho rfl (by k_ne) rfl Try.func10 (by simp [bodyM, Try.f10]) rfl ⟨hdq_idle _ _, ?_⟩
  refine Goes.stop (fun w hr => ⟨T', r', tl, htl, ⟨hE.sz, hE.t1⟩, ?_, (hE.rl (fun _ => hS.own) hr).ext, ((hE.rl (fun _ => hS.own) hr).t13 (Nat.le_refl 3)).2⟩)
  simp only [Try.ntmps10, List.map_toArray, List.map_cons, List.map_nil, Act.eval, g10, g13, List.size_toArray, List.length_cons, List.length_nil, Nat.reduceAdd, Nat.reduceSub, Array.replicate_succ, Array.replicate_zero, List.push_toArray, List.append_toArray, List.nil_append, List.cons_append]
  rfl
end
end
end Go.Proofs.Ytggfcdhkgldbfaa
