/-
  PARTS of a claim, merged by segs.py: NwI.
-/
import Derived.Test.YtggfcdhkgldbfaaN16
import Derived.Conc.CompanyDraw
import Derived.Conc.SmallLaws
namespace Go.Proofs.Ytggfcdhkgldbfaa
set_option linter.unusedSimpArgs false
set_option linter.unusedVariables false

/-! ### NwI -/
section
set_option linter.unusedSimpArgs false
open Go Go.Conc Go.RowKit Go.ConcR.Gen Cw

/-- T' is T with slot k anew. -/
def Put (T : Array Value) (k : Nat) (v : Value) (T' : Array Value) : Prop := T'.size = T.size ∧ T'[k]? = some v ∧ ∀ j, j ≠ k → T'[j]? = T[j]?
theorem put_set {T : Array Value} {k : Nat} (v : Value) (h : k < T.size) : Put T k v (T.setIfInBounds k v) := by
  refine ⟨by simp, by simp [h], fun j hj => ?_⟩
  simp [Array.getElem?_setIfInBounds, Ne.symm hj]
theorem getD_of {T : Array Value} {k : Nat} {v : Value} (h : T[k]? = some v) : T.getD k undef = v := by simp [Array.getD_eq_getD_getElem?, h]
theorem chan_of (t e : TypeId) {dir : ChanDir} {i : TypeInfo} (ht : Try.prog.underlying t = some (.chan dir e)) (hi : Try.prog.info? e = some i) (hb : i.bytes < 100) (w : World) (es : Array Event) :
    (Instr.makeChan t (.int .i64 0)).run Try.prog w = .ok (.chan (some w.heap.size)) (w.alloc (.chan 0 #[] false 0 0 false)) ∧ (Instr.makeChan t (.int .i64 0)).events Try.prog w es = es :=
  ⟨by simpa using run_makeChan (P := Try.prog) (w := w) ht hi .i64 0 (by omega) (by omega), by simpa using events_makeChan (P := Try.prog) (w := w) ht hi .i64 0 (by omega) (by omega) es⟩
theorem info_of (t : TypeId) {n : Nat} (h : (Try.prog.info? t).map (·.bytes) = some n) : ∃ i, Try.prog.info? t = some i ∧ i.bytes = n := by
  obtain ⟨i, hi, hb⟩ := Option.map_eq_some_iff.1 h
  exact ⟨i, hi, hb⟩
theorem chan68 (w : World) (es : Array Event) : (Instr.makeChan 68 (.int .i64 0)).run Try.prog w = .ok (.chan (some w.heap.size)) (w.alloc (.chan 0 #[] false 0 0 false)) ∧ (Instr.makeChan 68 (.int .i64 0)).events Try.prog w es = es := by
  obtain ⟨i, hi, hb⟩ := info_of 57 (n := 0) (by kernel_rfl)
  exact chan_of 68 57 Try.underlying68 hi (by omega) w es
theorem chan69 (w : World) (es : Array Event) : (Instr.makeChan 69 (.int .i64 0)).run Try.prog w = .ok (.chan (some w.heap.size)) (w.alloc (.chan 0 #[] false 0 0 false)) ∧ (Instr.makeChan 69 (.int .i64 0)).events Try.prog w es = es := by
  obtain ⟨i, hi, hb⟩ := info_of 4 (n := 1) (by kernel_rfl)
  exact chan_of 69 4 Try.underlying69 hi (by omega) w es
theorem sz_of (t : TypeId) {n : Nat} (h : (Try.prog.info? t).map (·.size) = some n) : ∃ i, Try.prog.info? t = some i ∧ i.size = n := by
  obtain ⟨i, hi, hb⟩ := Option.map_eq_some_iff.1 h
  exact ⟨i, hi, hb⟩
abbrev wkV (cr cp : Nat) (e : Bool) : Value := .agg #[.chan (some cr), .chan (some cp), .bool e]
theorem bldW (cr cp : Nat) (w : World) : (Instr.build 71 #[(0, .chan (some cr)), (1, .chan (some cp))]).run Try.prog w = .ok (wkV cr cp false) w := run_build w _ _ _ (by kernel_rfl)
theorem bldWE (cr cp : Nat) (w : World) (es : Array Event) : (Instr.build 71 #[(0, .chan (some cr)), (1, .chan (some cp))]).events Try.prog w es = es := by
  obtain ⟨it, hit, h1⟩ : ∃ it, Try.prog.info? 71 = some it ∧ it.zero = some (.agg #[.chan none, .chan none, .bool false]) := by
    have h : (Try.prog.info? 71).map (·.zero) = some (some (.agg #[.chan none, .chan none, .bool false])) := by kernel_rfl
    obtain ⟨i, hi, hb⟩ := Option.map_eq_some_iff.1 h
    exact ⟨i, hi, hb⟩
  obtain ⟨i1, g1, e1⟩ := sz_of 68 (n := 1) (by kernel_rfl)
  obtain ⟨i2, g2, e2⟩ := sz_of 69 (n := 1) (by kernel_rfl)
  obtain ⟨i3, g3, e3⟩ := sz_of 4 (n := 1) (by kernel_rfl)
  simp [Instr.build, go_sem, sizeOf, typeInfo, zeroValue, hit, h1, g1, e1, g2, e2, g3, e3]

noncomputable def ops13 : Array Oper := opsOf (lf (rt blk1))
abbrev fRun (T : Array Value) (k : List Item) : Frame := (base 10).at ⟨T, []⟩ k
section
variable {X : Cx} {V : Nat → Prop} {Q : World → Prop} {mn : Bool} {N₀ : Nat} {Stop : Goroutine → World → Prop} {m : Nat} {l : List (Nat × Obj)} {T : Array Value} {rest : List Nat} {k : List Item} {cs : List Frame} {w : World}
/-- What a round may lean on. -/
structure Rd0 (X : Cx) (V : Nat → Prop) (Q : World → Prop) (N₀ : Nat) : Prop where
  rl : ∀ w w', Q w → Rz V w w' → Q w'
  fl : Floor X V N₀
  bx : X.Bx = BxW
  low : ∀ w, Q w → N₀ ≤ w.heap.size
  al : ∀ w o, Q w → Q (w.alloc o)
  set : ∀ w b v, N₀ ≤ b → Q w → Q (w.setCell ⟨b, 0, none⟩ v)
  dr : ∀ w d, Q w → Q (w.at d)
theorem Rd0.alloc (H : Rd0 X V Q N₀) (o : Obj) (hF : Q w ∧ ∀ x ∈ l, w.heap[x.1]? = some x.2 ∧ ¬ V x.1) : HDq X w (w.alloc o) #[] ∧ N₀ ≤ w.heap.size ∧ (∀ x ∈ l, x.1 ≠ w.heap.size) ∧ Q (w.alloc o) ∧ ∀ x ∈ (w.heap.size, o) :: l, (w.alloc o).heap[x.1]? = some x.2 ∧ ¬ V x.1 := by
  have hn := H.low w hF.1
  refine ⟨hdq_alloc (fun a ha => Nat.lt_of_lt_of_le (H.fl.st a ha) hn) (fun c hc => Nat.lt_of_lt_of_le (H.fl.ch c hc) hn) (fun b o => Nat.lt_of_lt_of_le (H.fl.wg b o) hn) (by simp), hn, fun x hx => Nat.ne_of_lt (Array.getElem?_eq_some_iff.1 (hF.2 x hx).1).1, H.al w o hF.1, fun x hx => ?_⟩
  rcases List.mem_cons.1 hx with rfl | hx
  · exact ⟨heap_alloc_new w _, (H.fl.ok hn).nv⟩
  · rw [heap_alloc_old w _ _ (Array.getElem?_eq_some_iff.1 (hF.2 x hx).1).1]; exact hF.2 x hx
set_option maxRecDepth 100000
theorem events_store_ptr (P : Program) (w : World) (es : Array Event) (a : Addr) (m : Mode) (p : Option Addr) : (store a (.pointer p) m).events P w es = storedEv P w es a (.pointer p) m := events_store P w es a _ m rfl
theorem c0 (H : Rd0 X V Q N₀) (hT : T.size = 79) (hF : Q w ∧ ∀ x ∈ l, w.heap[x.1]? = some x.2 ∧ ¬ V x.1)
    (hN : ∀ T' b w', Put T 40 (.chan (some b)) T' → N₀ ≤ b → (∀ x ∈ l, x.1 ≠ b) → (Q w' ∧ ∀ x ∈ (b, Obj.chan 0 #[] false 0 0 false) :: l, w'.heap[x.1]? = some x.2 ∧ ¬ V x.1) → Goes Try.prog mn (Rz V) (HDq X) Stop m (G (fRun T' (.inRegion ops13 rest :: k)) cs) w') :
    Goes Try.prog mn (Rz V) (HDq X) Stop (m + 1) (G (fRun T (.inRegion ops13 (0 :: rest) :: k)) cs) w := by
  refine Goes.step rfl (fun w hr => ?_)
  replace hF := (q_rl H.rl) hF hr
  clear hr
  have hm := (chan68 w #[]).1
  have hm' := fun es => (chan68 w es).2
  revert hN
  simp only [ops13, blk1, rnd1, cd7, bodyM, inner, rt, lf, opsOf, Try.f10, Option.getD_some]
  intro hN
  refine goes_oper_k rfl rfl (by k_ne) (fun K hK => ?_)
  go_simp
  obtain ⟨h1, h2, h3, h4⟩ := H.alloc (Obj.chan 0 #[] false 0 0 false) hF
  refine hK _ _ ⟨?_, ?_⟩
  · rw [listed_nil (by simp [go_sem, *])]; exact h1
  · exact hN _ _ _ (put_set _ (by omega)) h2 h3 h4
theorem c1 (H : Rd0 X V Q N₀) (hT : T.size = 79) (hF : Q w ∧ ∀ x ∈ l, w.heap[x.1]? = some x.2 ∧ ¬ V x.1)
    (hN : ∀ T' b w', Put T 41 (.chan (some b)) T' → N₀ ≤ b → (∀ x ∈ l, x.1 ≠ b) → (Q w' ∧ ∀ x ∈ (b, Obj.chan 0 #[] false 0 0 false) :: l, w'.heap[x.1]? = some x.2 ∧ ¬ V x.1) → Goes Try.prog mn (Rz V) (HDq X) Stop m (G (fRun T' (.inRegion ops13 rest :: k)) cs) w') :
    Goes Try.prog mn (Rz V) (HDq X) Stop (m + 1) (G (fRun T (.inRegion ops13 (1 :: rest) :: k)) cs) w := by
  refine Goes.step rfl (fun w hr => ?_)
  replace hF := (q_rl H.rl) hF hr
  clear hr
  have hm := (chan69 w #[]).1
  have hm' := fun es => (chan69 w es).2
  revert hN
  simp only [ops13, blk1, rnd1, cd7, bodyM, inner, rt, lf, opsOf, Try.f10, Option.getD_some]
  intro hN
  refine goes_oper_k rfl rfl (by k_ne) (fun K hK => ?_)
  go_simp
  obtain ⟨h1, h2, h3, h4⟩ := H.alloc (Obj.chan 0 #[] false 0 0 false) hF
  refine hK _ _ ⟨?_, ?_⟩
  · rw [listed_nil (by simp [go_sem, *])]; exact h1
  · exact hN _ _ _ (put_set _ (by omega)) h2 h3 h4
theorem c2 (H : Rd0 X V Q N₀) (hT : T.size = 79) (hF : Q w ∧ ∀ x ∈ l, w.heap[x.1]? = some x.2 ∧ ¬ V x.1) {cr cp : Nat} (h40 : T[40]? = some (.chan (some cr))) (h41 : T[41]? = some (.chan (some cp)))
    (hN : ∀ T' w', Put T 42 (wkV cr cp false) T' → (Q w' ∧ ∀ x ∈ l, w'.heap[x.1]? = some x.2 ∧ ¬ V x.1) → Goes Try.prog mn (Rz V) (HDq X) Stop m (G (fRun T' (.inRegion ops13 rest :: k)) cs) w') :
    Goes Try.prog mn (Rz V) (HDq X) Stop (m + 1) (G (fRun T (.inRegion ops13 (2 :: rest) :: k)) cs) w := by
  refine Goes.step rfl (fun w hr => ?_)
  replace hF := (q_rl H.rl) hF hr
  clear hr
  have g40 : ∀ h, T[40]'h = _ := fun h => (Array.getElem?_eq_some_iff.1 h40).2
  have g41 : ∀ h, T[41]'h = _ := fun h => (Array.getElem?_eq_some_iff.1 h41).2
  have hm := bldW cr cp w
  have hm' := bldWE cr cp w
  revert hN
  simp only [ops13, blk1, rnd1, cd7, bodyM, inner, rt, lf, opsOf, Try.f10, Option.getD_some]
  intro hN
  refine goes_oper_k rfl rfl (by k_ne) (fun K hK => ?_)
  go_simp
  refine hK _ _ ⟨?_, ?_⟩
  · rw [listed_nil (by simp [go_sem, *])]; exact hdq_idle _ _
  · exact hN _ _ (put_set _ (by omega)) hF
theorem c3 (H : Rd0 X V Q N₀) (hT : T.size = 79) (hF : Q w ∧ ∀ x ∈ l, w.heap[x.1]? = some x.2 ∧ ¬ V x.1) {cr cp : Nat} (h42 : T[42]? = some (wkV cr cp false))
    (hN : ∀ T' b w', Put T 43 (pb b) T' → N₀ ≤ b → (∀ x ∈ l, x.1 ≠ b) → (Q w' ∧ ∀ x ∈ (b, Obj.cells #[.chan (some cr), .chan (some cp), .bool false] 71 (0, 0)) :: l, w'.heap[x.1]? = some x.2 ∧ ¬ V x.1) → Goes Try.prog mn (Rz V) (HDq X) Stop m (G (fRun T' (.inRegion ops13 rest :: k)) cs) w') :
    Goes Try.prog mn (Rz V) (HDq X) Stop (m + 1) (G (fRun T (.inRegion ops13 (3 :: rest) :: k)) cs) w := by
  refine Goes.step rfl (fun w hr => ?_)
  replace hF := (q_rl H.rl) hF hr
  clear hr
  replace h42 := getD_of h42
  revert hN
  simp only [ops13, blk1, rnd1, cd7, bodyM, inner, rt, lf, opsOf, Try.f10, Option.getD_some]
  intro hN
  refine goes_oper_k rfl rfl (by k_ne) (fun K hK => ?_)
  go_simp
  obtain ⟨h1, h2, h3, h4⟩ := H.alloc (Obj.cells #[.chan (some cr), .chan (some cp), .bool false] 71 (0, 0)) hF
  refine hK _ _ ⟨?_, ?_⟩
  · rw [listed_nil (by simp [go_sem, *])]; exact h1
  · exact hN _ _ _ (put_set _ (by omega)) h2 h3 h4
theorem c4 (H : Rd0 X V Q N₀) (hT : T.size = 79) (hF : Q w ∧ ∀ x ∈ l, w.heap[x.1]? = some x.2 ∧ ¬ V x.1)
    (hN : ∀ T' b w', Put T 11 (pb b) T' → N₀ ≤ b → (∀ x ∈ l, x.1 ≠ b) → (Q w' ∧ ∀ x ∈ (b, Obj.cells #[.pointer none] 67 (0, 0)) :: l, w'.heap[x.1]? = some x.2 ∧ ¬ V x.1) → Goes Try.prog mn (Rz V) (HDq X) Stop m (G (fRun T' (.inRegion ops13 rest :: k)) cs) w') :
    Goes Try.prog mn (Rz V) (HDq X) Stop (m + 1) (G (fRun T (.inRegion ops13 (4 :: rest) :: k)) cs) w := by
  refine Goes.step rfl (fun w hr => ?_)
  replace hF := (q_rl H.rl) hF hr
  clear hr
  revert hN
  simp only [ops13, blk1, rnd1, cd7, bodyM, inner, rt, lf, opsOf, Try.f10, Option.getD_some]
  intro hN
  refine goes_oper_k rfl rfl (by k_ne) (fun K hK => ?_)
  go_simp
  obtain ⟨h1, h2, h3, h4⟩ := H.alloc (Obj.cells #[.pointer none] 67 (0, 0)) hF
  refine hK _ _ ⟨?_, ?_⟩
  · rw [listed_nil (by simp [go_sem, *])]; exact h1
  · exact hN _ _ _ (put_set _ (by omega)) h2 h3 h4
theorem c5 (H : Rd0 X V Q N₀) (hT : T.size = 79) (hF : Q w ∧ ∀ x ∈ l, w.heap[x.1]? = some x.2 ∧ ¬ V x.1) {bw bs : Nat} (hbw : N₀ ≤ bw) (h11 : T[11]? = some (pb bw)) (h43 : T[43]? = some (pb bs)) (hm : (bw, Obj.cells #[.pointer none] 67 (0, 0)) ∈ l)
    (hN : ∀ w', Q w' → w'.heap[bw]? = some (.cells #[pb bs] 67 (0, 0)) → (∀ x ∈ l, x.1 ≠ bw → w'.heap[x.1]? = some x.2) → Goes Try.prog mn (Rz V) (HDq X) Stop m (G (fRun T (.inRegion ops13 rest :: k)) cs) w') :
    Goes Try.prog mn (Rz V) (HDq X) Stop (m + 1) (G (fRun T (.inRegion ops13 (5 :: rest) :: k)) cs) w := by
  refine Goes.step rfl (fun w hr => ?_)
  replace hF := (q_rl H.rl) hF hr
  clear hr
  replace h11 := getD_of h11
  replace h43 := getD_of h43
  have hb := (hF.2 _ hm).1
  simp only at hb
  have hc : w.cell? ⟨bw, 0, none⟩ = some (.pointer none) := by simp [World.cell?, hb]
  have hz : w.frozen? ⟨bw, 0, none⟩ = false := by simp [World.frozen?, hb]
  revert hN
  simp only [ops13, blk1, rnd1, cd7, bodyM, inner, rt, lf, opsOf, Try.f10, Option.getD_some]
  intro hN
  refine goes_oper_k rfl rfl (by k_ne) (fun K hK => ?_)
  go_simp
  try (unfold stored; go_simp)
  refine hK _ _ ⟨?_, ?_⟩
  · refine (H.fl.ok hbw).write (block_of_cell hc) ?_ (fun e he => ?_)
    · rintro ⟨v, ty', hv, hb', _⟩
      rw [hb] at hv
      cases hv
      rw [H.bx] at hb'
      rcases hb' with ⟨v1, e1, e | ⟨_, e⟩⟩ | e
      · cases e
      · exact e (by simpa using e1.symm)
      · cases e
    · have hm := mem_listed he
      simp [go_sem, events_store_ptr, storedEv, *] at hm
      exact hm
  · refine hN _ (H.set w _ _ hbw hF.1) ?_ fun x hx hne => ?_
    · simp [World.setCell, Array.getElem?_modify, hb]
    · rw [heap_setCell_ne w _ _ hne]; exact (hF.2 x hx).1
end
end
end Go.Proofs.Ytggfcdhkgldbfaa
