/-
  PARTS of a claim, merged by segs.py: CwAwk2, CwPl, CwAwk3.
-/
import Derived.Test.YtggfcdhkgldbfaaDoorS36
import Derived.Test.YtggfcdhkgldbfaaDoorS31
import Derived.Test.YtggfcdhkgldbfaaDoorS34
namespace Go.Proofs.YtggfcdhkgldbfaaDoor
set_option linter.unusedSimpArgs false
set_option linter.unusedVariables false

/-! ### CwAwk2 -/
section
set_option linter.unusedSimpArgs false
open Go Go.Conc Go.RowKit Go.ConcR.Gen Cw

section
variable {Sh : Loc → Prop} {W : World} {mn : Bool} {Q : World → Prop}
set_option maxRecDepth 100000 in
set_option maxHeartbeats 2000000 in
/-- Through tasks, into sched.Run. -/
theorem a_run (hrl : ∀ w w', Q w → Ext Vn w w' → Q w') {pa sl kc : Nat} {Rs' : Value → World → Prop} (hRs : ∀ r w w', Rs' r w → Ext Vn w w' → Rs' r w') (cs : List Frame) (w : World) (hF : Q w) (T : Array Value) (hT : T.size = 22) (h4 : T[4]? = some (.slice (some ⟨pa, 0, none⟩) 2 2)) (h7 : T[7]? = some (.slice (some ⟨sl, 0, none⟩) 2 2))
    (hkc : CallsC Tryd.prog mn (Ext Vn) (HDq (Cx0 Sh)) 10 #[.slice (some ⟨sl, 0, none⟩) 2 2] kc w (fun r w' => Q w' ∧ Rs' r w')) :
    Goes Tryd.prog mn (Ext Vn) (HDq (Cx0 Sh)) (fun g w => ∃ r T', T'.size = 22 ∧ g = G (fRun (entryT (.slice (some ⟨pa, 0, none⟩) 2 2) r) [.code bodyM]) (fAw T' (.inRegion ops9a (5 :: [6, 7, 8, 9, 10]) :: .code (rt (rt body9)) :: []) :: cs) ∧ Q w ∧ Rs' r w) (10 + kc + 3)
      (G (fAw T (.inRegion ops9a [4, 5, 6, 7, 8, 9, 10] :: .code (rt (rt body9)) :: [])) cs) w := by
  obtain ⟨v0, v1, v2, v3, v4, v5, v6, v7, v8, v9, v10, v11, v12, v13, v14, v15, v16, v17, v18, v19, v20, v21, rfl⟩ := arr22 T hT
  simp only [List.getElem?_toArray, List.getElem?_cons_zero, List.getElem?_cons_succ, Option.some.injEq] at h4 h7
  subst h4
  subst h7
  simp only [fAw, ops9a, body9, inner, rt, lf, opsOf, Tryd.f4, Option.getD_some]
  refine Goes.call (hdq_terms (Cx0 Sh) Vn) (f := 10) (args := #[.tmp 7]) (ats := #[46]) rfl rfl (by k_ne) rfl (by simp only [List.map_toArray, List.map_cons, List.map_nil, Act.eval]; exact hkc) (fun r w hv => ?_)
  clear hF hkc
  obtain ⟨hF, hR⟩ := hv
  try walk_nrm
  refine Goes.step rfl (fun w hr => ?_)
  replace hF := hrl _ _ hF hr
  replace hR := hRs _ _ _ hR hr
  clear hr
  refine goes_call rfl rfl (by k_ne) rfl Tryd.func6 rfl rfl ⟨hdq_idle _ _, ?_⟩
  refine Goes.stop (fun w hr => ⟨r, #[v0, v1, v2, v3, .slice (some ⟨pa, 0, none⟩) 2 2, v5, v6, .slice (some ⟨sl, 0, none⟩) 2 2, r, v9, v10, v11, v12, v13, v14, v15, v16, v17, v18, v19, v20, v21], ?_, ?_, hrl _ _ hF hr, hRs _ _ _ hR hr⟩)
  · rfl
  · simp only [fRun, entryT, bodyM, Tryd.ntmps6, List.map_toArray, List.map_cons, List.map_nil, Act.eval, List.size_toArray, List.length_cons, List.length_nil, Nat.reduceAdd, Nat.reduceSub, Array.replicate_succ, Array.replicate_zero, List.push_toArray, List.append_toArray, List.nil_append, List.cons_append]
    rfl
theorem bR3 (i j k : Int) (x y z : ByteArray) (w : World) : (Instr.buildSlice 37 3 #[(0, .agg #[.int .i64 i, .string x]), (1, .agg #[.int .i64 j, .string y]), (2, .agg #[.int .i64 k, .string z])]).run Tryd.prog w = .ok (.slice (some ⟨w.heap.size, 0, none⟩) 3 3) (w.alloc (.cells #[.int .i64 i, .string x, .int .i64 j, .string y, .int .i64 k, .string z] 40)) := by
  obtain ⟨it, hit, h1, h2, _⟩ := reInfo
  refine run_buildSlice w _ _ 3 _ _ it _ (by kernel_rfl) hit h1 (by rw [h2]; omega) (by rw [h2]; omega) ?_
  rw [h2]
  kernel_rfl
theorem bR3E (i j k : Int) (x y z : ByteArray) (w : World) (es : Array Event) : (Instr.buildSlice 37 3 #[(0, .agg #[.int .i64 i, .string x]), (1, .agg #[.int .i64 j, .string y]), (2, .agg #[.int .i64 k, .string z])]).events Tryd.prog w es = es := by
  obtain ⟨it, hit, h1, h2, _⟩ := reInfo
  simp [Instr.buildSlice, go_sem, sizeOf, typeInfo, zeroValue, hit, h1, h2]
set_option maxRecDepth 100000 in
set_option maxHeartbeats 2000000 in
/-- Behind sched.Run, to the call of same. -/
theorem a_same {u : Value} (cs : List Frame) (w : World) (hF : Kn W [] w) (T : Array Value) (hT : T.size = 22) :
    Goes Tryd.prog mn (Ext Vn) (HDq (Cx0 Sh)) (fun g w => ∃ sb T, (T.size = 22 ∧ T[14]? = some (.bool true) ∧ T[15]? = some u ∧ T[19]? = some (.slice (some ⟨sb, 0, none⟩) 3 3)) ∧ g = G (fAw T (.inRegion ops9b [8, 9, 10] :: .code .ret :: [])) cs ∧ Kn W [(sb, Obj.cells #[.int .i64 1, .string strC, .int .i64 0, .string strA, .int .i64 0, .string strB] 40 (0, 0))] w) 30
      (G ((base 4).at (Act.put ⟨T, []⟩ ((ops9a[5]?).bind (·.dst)) (.tuple #[u, .int .i64 0])) (.inRegion ops9a [6, 7, 8, 9, 10] :: .code (rt (rt body9)) :: [])) cs) w := by
  obtain ⟨v0, v1, v2, v3, v4, v5, v6, v7, v8, v9, v10, v11, v12, v13, v14, v15, v16, v17, v18, v19, v20, v21, rfl⟩ := arr22 T hT
  simp only [fAw, ops9a, ops9b, body9, inner, rt, lf, opsOf, Tryd.f4, Option.getD_some]
  walk_nrm
  refine Goes.step rfl (fun w hr => ?_)
  replace hF := (fun h r => Kn.rl h r) hF hr
  clear hr
  refine goes_oper_k rfl rfl (by k_ne) (fun K hK => ?_)
  go_simp
  refine hK _ _ ⟨?_, ?_⟩
  · rw [listed_nil (by simp [go_sem])]; exact hdq_idle _ _
  clear hK K
  try walk_nrm
  refine Goes.step rfl (fun w hr => ?_)
  replace hF := (fun h r => Kn.rl h r) hF hr
  clear hr
  refine goes_oper_k rfl rfl (by k_ne) (fun K hK => ?_)
  go_simp
  refine hK _ _ ⟨?_, ?_⟩
  · rw [listed_nil (by simp [go_sem])]; exact hdq_idle _ _
  clear hK K
  try walk_nrm
  refine Goes.step rfl (fun w hr => ?_)
  replace hF := (fun h r => Kn.rl h r) hF hr
  clear hr
  refine goes_oper_k rfl rfl (by k_ne) (fun K hK => ?_)
  go_simp
  refine hK _ _ ⟨?_, ?_⟩
  · rw [listed_nil (by simp [go_sem])]; exact hdq_idle _ _
  clear hK K
  try walk_nrm
  refine Goes.step rfl (fun w hr => ?_)
  replace hF := (fun h r => Kn.rl h r) hF hr
  clear hr
  refine goes_oper_k rfl rfl (by k_ne) (fun K hK => ?_)
  go_simp
  refine hK _ _ ⟨?_, ?_⟩
  · rw [listed_nil (by simp [go_sem])]; exact hdq_idle _ _
  clear hK K
  try walk_nrm
  refine Goes.step rfl (fun w hr => ?_)
  replace hF := (fun h r => Kn.rl h r) hF hr
  clear hr
  refine goes_oper_k rfl rfl (by k_ne) (fun K hK => ?_)
  go_simp
  refine hK _ _ ⟨?_, ?_⟩
  · rw [listed_nil (by simp [go_sem])]; exact hdq_idle _ _
  clear hK K
  try walk_nrm
  refine Goes.step rfl (fun w hr => ?_)
  replace hF := (fun h r => Kn.rl h r) hF hr
  clear hr
  rw [stepG_region_end]
  simp only [goes_go]
  refine ⟨hdq_idle _ _, ?_⟩
  refine Goes.step rfl (fun w hr => ?_)
  replace hF := (fun h r => Kn.rl h r) hF hr
  clear hr
  rw [stepG_seq]
  simp only [goes_go]
  refine ⟨hdq_idle _ _, ?_⟩
  refine Goes.step rfl (fun w hr => ?_)
  replace hF := (fun h r => Kn.rl h r) hF hr
  clear hr
  rw [stepG_region]
  simp only [goes_go, List.size_toArray, List.length_cons, List.length_nil, Nat.reduceAdd, Nat.zero_add, List.range, List.range.loop]
  refine ⟨hdq_idle _ _, ?_⟩
  refine Goes.step rfl (fun w hr => ?_)
  replace hF := (fun h r => Kn.rl h r) hF hr
  clear hr
  refine goes_oper_k rfl rfl (by k_ne) (fun K hK => ?_)
  go_simp
  refine hK _ _ ⟨?_, ?_⟩
  · rw [listed_nil (by simp [go_sem])]; exact hdq_idle _ _
  clear hK K
  try walk_nrm
  refine Goes.step rfl (fun w hr => ?_)
  replace hF := (fun h r => Kn.rl h r) hF hr
  clear hr
  refine goes_oper_k rfl rfl (by k_ne) (fun K hK => ?_)
  go_simp
  refine hK _ _ ⟨?_, ?_⟩
  · rw [listed_nil (by simp [go_sem, *])]; exact hdq_idle _ _
  clear hK K
  try walk_nrm
  refine Goes.step rfl (fun w hr => ?_)
  replace hF := (fun h r => Kn.rl h r) hF hr
  clear hr
  refine goes_oper_k rfl rfl (by k_ne) (fun K hK => ?_)
  go_simp
  refine hK _ _ ⟨?_, ?_⟩
  · rw [listed_nil (by simp [go_sem])]; exact hdq_idle _ _
  clear hK K
  try walk_nrm
  refine Goes.step rfl (fun w hr => ?_)
  replace hF := (fun h r => Kn.rl h r) hF hr
  clear hr
  refine goes_oper_k rfl rfl (by k_ne) (fun K hK => ?_)
  go_simp
  refine hK _ _ ⟨?_, ?_⟩
  · rw [listed_nil (by simp [go_sem])]; exact hdq_idle _ _
  clear hK K
  try walk_nrm
  refine Goes.step rfl (fun w hr => ?_)
  replace hF := (fun h r => Kn.rl h r) hF hr
  clear hr
  have hm := bldR 1 strC
  have hm' := bldRE 1 strC
  refine goes_oper_k rfl rfl (by k_ne) (fun K hK => ?_)
  go_simp
  refine hK _ _ ⟨?_, ?_⟩
  · rw [listed_nil (by simp [go_sem, *])]; exact hdq_idle _ _
  clear hK K hm hm'
  try walk_nrm
  refine Goes.step rfl (fun w hr => ?_)
  replace hF := (fun h r => Kn.rl h r) hF hr
  clear hr
  have hm := bldR 0 strA
  have hm' := bldRE 0 strA
  refine goes_oper_k rfl rfl (by k_ne) (fun K hK => ?_)
  go_simp
  refine hK _ _ ⟨?_, ?_⟩
  · rw [listed_nil (by simp [go_sem, *])]; exact hdq_idle _ _
  clear hK K hm hm'
  try walk_nrm
  refine Goes.step rfl (fun w hr => ?_)
  replace hF := (fun h r => Kn.rl h r) hF hr
  clear hr
  have hm := bldR 0 strB
  have hm' := bldRE 0 strB
  refine goes_oper_k rfl rfl (by k_ne) (fun K hK => ?_)
  go_simp
  refine hK _ _ ⟨?_, ?_⟩
  · rw [listed_nil (by simp [go_sem, *])]; exact hdq_idle _ _
  clear hK K hm hm'
  try walk_nrm
  refine Goes.step rfl (fun w hr => ?_)
  replace hF := (fun h r => Kn.rl h r) hF hr
  clear hr
  have hm := bR3 1 0 0 strC strA strB
  have hm' := bR3E 1 0 0 strC strA strB
  refine goes_oper_k rfl rfl (by k_ne) (fun K hK => ?_)
  go_simp
  refine hK _ _ ⟨?_, ?_⟩
  · rw [listed_nil (by simp [go_sem, *])]
    exact al_hd (by simp)
  clear hK K
  try walk_nrm
  clear hm hm'
  replace hF := hF.alloc (Obj.cells #[.int .i64 1, .string strC, .int .i64 0, .string strA, .int .i64 0, .string strB] 40 (0, 0))
  generalize w.heap.size = sb at *
  generalize w.alloc (Obj.cells #[.int .i64 1, .string strC, .int .i64 0, .string strA, .int .i64 0, .string strB] 40 (0, 0)) = w at *
  refine Goes.stop (fun w hr => ⟨sb, _, ⟨?_, ?_, ?_, ?_⟩, rfl, hF.rl hr⟩) <;> rfl
set_option maxRecDepth 100000 in
set_option maxHeartbeats 2000000 in
/-- Through same, and out. -/
theorem a_out {w : World} (hrl : ∀ w w', Q w → Ext Vn w w' → Q w') {sb n c kc : Nat} {a : Option Addr} (hF : Q w) {b₀ : Frame} {a₀ : Act} {ops : Array Oper} {j : Nat} {rest : List Nat} {kk : List Item} (cs : List Frame) (T : Array Value) (hT : T.size = 22) (h14 : T[14]? = some (.bool true)) (h15 : T[15]? = some (.slice a n c)) (h19 : T[19]? = some (.slice (some ⟨sb, 0, none⟩) 3 3))
    (hkc : CallsC Tryd.prog mn (Ext Vn) (HDq (Cx0 Sh)) 9 #[.slice a n c, .slice (some ⟨sb, 0, none⟩) 3 3] kc w (fun r w' => r = .bool true ∧ Q w')) :
    Goes Tryd.prog mn (Ext Vn) (HDq (Cx0 Sh)) (fun g w => g = G (b₀.at (a₀.put ((ops[j]?).bind (·.dst)) (.bool true)) (.inRegion ops rest :: kk)) cs ∧ Q w) (20 + kc + 3)
      (G (fAw T (.inRegion ops9b [8, 9, 10] :: .code .ret :: [])) (b₀.at a₀ (.inRegion ops (j :: rest) :: kk) :: cs)) w := by
  obtain ⟨v0, v1, v2, v3, v4, v5, v6, v7, v8, v9, v10, v11, v12, v13, v14, v15, v16, v17, v18, v19, v20, v21, rfl⟩ := arr22 T hT
  simp only [List.getElem?_toArray, List.getElem?_cons_zero, List.getElem?_cons_succ, Option.some.injEq] at h14 h15 h19
  subst h14
  subst h15
  subst h19
  simp only [fAw, ops9b, body9, inner, rt, lf, opsOf, Tryd.f4, Option.getD_some]
  refine Goes.call (hdq_terms (Cx0 Sh) Vn) (f := 9) (args := #[.tmp 15, .tmp 19]) (ats := #[31, 37]) rfl rfl (by k_ne) rfl (by simp only [List.map_toArray, List.map_cons, List.map_nil, Act.eval]; exact hkc) (fun r w hv => ?_)
  clear hF hkc
  obtain ⟨rfl, hF⟩ := hv
  try walk_nrm
  refine Goes.step rfl (fun w hr => ?_)
  replace hF := (hrl _ _) hF hr
  clear hr
  refine goes_oper_k rfl rfl (by k_ne) (fun K hK => ?_)
  go_simp
  refine hK _ _ ⟨?_, ?_⟩
  · rw [listed_nil (by simp [go_sem])]; exact hdq_idle _ _
  clear hK K
  try walk_nrm
  refine Goes.step rfl (fun w hr => ?_)
  replace hF := (hrl _ _) hF hr
  clear hr
  refine goes_oper_k rfl rfl (by k_ne) (fun K hK => ?_)
  go_simp
  refine hK _ _ ⟨?_, ?_⟩
  · rw [listed_nil (by simp [go_sem])]; exact hdq_idle _ _
  clear hK K
  try walk_nrm
  refine Goes.step rfl (fun w hr => ?_)
  replace hF := (hrl _ _) hF hr
  clear hr
  rw [stepG_region_end]
  simp only [goes_go]
  refine ⟨hdq_idle _ _, ?_⟩
  refine Goes.step rfl (fun w hr => ?_)
  replace hF := (hrl _ _) hF hr
  clear hr
  rw [stepG_ret']
  simp only [goes_go]
  refine ⟨hdq_idle _ _, ?_⟩
  refine Goes.step rfl (fun w hr => ?_)
  replace hF := (hrl _ _) hF hr
  clear hr
  refine goes_leave1 rfl rfl Tryd.func4 rfl ⟨hdq_idle _ _, ?_⟩
  exact Goes.stop fun w hr => ⟨rfl, hrl _ _ hF hr⟩
end
end

/-! ### CwPl -/
section
set_option linter.unusedSimpArgs false
open Go Go.Conc Go.RowKit Go.ConcR.Gen Cw
open Go.ConcN (sumTo upd upd_same upd_ne)

section
variable {W : World} {us : List Value} {L : List (List ByteArray)} {n : Nat}
/-- How many notes a task has said. -/
def locN (s : Sst (notesT W us L)) (k : Nat) : Nat := s.loc k
/-- How the two states agree about the tasks from number i on. -/
structure RelF (L : List (List ByteArray)) (n i : Nat) (s : Sst (notesT W us L)) (A : List Nat) (E : List (Int × ByteArray)) : Prop where
  ev : s.E = E
  len : A.length = n
  go : ∀ k, i ≤ k → k < n → s.en k = false → A[k]? = some (locN s k) ∧ locN s k ≤ (Sk L k).length
  done : ∀ k, i ≤ k → k < n → s.en k = true → ∃ x, A[k]? = some x ∧ (Sk L k).length < x
theorem step_some {s : Sst (notesT W us L)} {k : Nat} {x : ByteArray} (he : s.en k = false) (hx : (Sk L k)[locN s k]? = some x) : (notesT W us L).step k s = ⟨s.en, upd s.loc k (locN s k + 1 : Nat), s.m, s.E ++ [((k : Int), x)]⟩ := by
  have hn : (notesT W us L).next k (s.loc k) s.m = (s.m, some (x, (locN s k + 1 : Nat))) := by
    change (match (Sk L k)[locN s k]? with | some s' => (s.m, some (s', locN s k + 1)) | none => (s.m, none)) = _
    rw [hx]
  unfold Tasks.step
  rw [he, hn]
  rfl
theorem step_none {s : Sst (notesT W us L)} {k : Nat} (he : s.en k = false) (hx : (Sk L k)[locN s k]? = none) : (notesT W us L).step k s = ⟨upd s.en k true, s.loc, s.m, s.E⟩ := by
  have hn : (notesT W us L).next k (s.loc k) s.m = (s.m, none) := by
    change (match (Sk L k)[locN s k]? with | some s' => (s.m, some (s', locN s k + 1)) | none => (s.m, none)) = _
    rw [hx]
    rfl
  unfold Tasks.step
  rw [he, hn]
  rfl
theorem locN_upd_same (en : Nat → Bool) (l : Nat → Nat) (k x : Nat) (m : Unit) (E : List (Int × ByteArray)) : locN (⟨en, upd l k x, m, E⟩ : Sst (notesT W us L)) k = x := upd_same l k x
theorem locN_upd_ne (en : Nat → Bool) (l : Nat → Nat) {k j : Nat} (x : Nat) (m : Unit) (E : List (Int × ByteArray)) (h : j ≠ k) : locN (⟨en, upd l k x, m, E⟩ : Sst (notesT W us L)) j = l j := upd_ne l x h
theorem refStep_some' {A : List Nat} {E : List (Int × ByteArray)} {tt x : Nat} {sx : ByteArray} (hA : A[tt]? = some x) (hs : (Sk L tt)[x]? = some sx) : refStep L (A, E) tt = (A.set tt (x + 1), E ++ [((tt : Int), sx)]) := by
  simp [refStep, List.getD_eq_getElem?_getD, hA, hs]
theorem refStep_none' {A : List Nat} {E : List (Int × ByteArray)} {tt x : Nat} (hA : A[tt]? = some x) (hs : (Sk L tt).length ≤ x) : refStep L (A, E) tt = (A.set tt (x + 1), E) := by
  simp [refStep, List.getD_eq_getElem?_getD, hA, List.getElem?_eq_none hs]
theorem rel_step {i k : Nat} {s : Sst (notesT W us L)} {A : List Nat} {E : List (Int × ByteArray)} (h : RelF L n i s A E) (hik : i ≤ k) (hk : k < n) : RelF L n i ((notesT W us L).step k s) (refStep L (A, E) k).1 (refStep L (A, E) k).2 := by
  have hkA : k < A.length := by rw [h.len]; exact hk
  cases he : s.en k with
  | true =>
    obtain ⟨x, hx, hlt⟩ := h.done k hik hk he
    rw [step_id he, refStep_none' hx (by omega)]
    refine ⟨h.ev, by simpa using h.len, fun j hj hjn hej => ?_, fun j hj hjn hej => ?_⟩
    · have hne : j ≠ k := fun e => by rw [e, he] at hej; cases hej
      rw [List.getElem?_set_ne (Ne.symm hne)]
      exact h.go j hj hjn hej
    · by_cases hne : j = k
      · subst hne
        exact ⟨x + 1, by simp [hkA], by omega⟩
      · rw [List.getElem?_set_ne (Ne.symm hne)]
        exact h.done j hj hjn hej
  | false =>
    obtain ⟨hA, hle⟩ := h.go k hik hk he
    cases hx : (Sk L k)[locN s k]? with
    | some sx =>
      have hlt := (List.getElem?_eq_some_iff.1 hx).1
      rw [step_some he hx, refStep_some' hA hx]
      refine ⟨by simp only [h.ev], by simpa using h.len, fun j hj hjn hej => ?_, fun j hj hjn hej => ?_⟩
      · by_cases hne : j = k
        · subst hne
          rw [show locN (⟨s.en, upd s.loc j (locN s j + 1 : Nat), s.m, s.E ++ [((j : Int), sx)]⟩ : Sst (notesT W us L)) j = locN s j + 1 from upd_same _ _ _]
          exact ⟨by simp [hkA], hlt⟩
        · rw [List.getElem?_set_ne (Ne.symm hne), show locN (⟨s.en, upd s.loc k (locN s k + 1 : Nat), s.m, s.E ++ [((k : Int), sx)]⟩ : Sst (notesT W us L)) j = locN s j from upd_ne _ _ hne]
          exact h.go j hj hjn hej
      · have hne : j ≠ k := fun e => by subst e; rw [he] at hej; cases hej
        rw [List.getElem?_set_ne (Ne.symm hne)]
        exact h.done j hj hjn hej
    | none =>
      have hge := List.getElem?_eq_none_iff.1 hx
      rw [step_none he hx, refStep_none' hA hge]
      refine ⟨h.ev, by simpa using h.len, fun j hj hjn hej => ?_, fun j hj hjn hej => ?_⟩
      · have hne : j ≠ k := fun e => by subst e; simp only [upd_same] at hej; cases hej
        simp only [upd_ne _ _ hne] at hej
        rw [List.getElem?_set_ne (Ne.symm hne)]
        exact h.go j hj hjn hej
      · by_cases hne : j = k
        · subst hne
          exact ⟨locN s j + 1, by simp [hkA], by omega⟩
        · simp only [upd_ne _ _ hne] at hej
          rw [List.getElem?_set_ne (Ne.symm hne)]
          exact h.done j hj hjn hej
theorem RelF.up {i : Nat} {s : Sst (notesT W us L)} {A : List Nat} {E : List (Int × ByteArray)} (h : RelF L n i s A E) : RelF L n (i + 1) s A E := ⟨h.ev, h.len, fun k hk => h.go k (by omega), fun k hk => h.done k (by omega)⟩
theorem rel_picks : ∀ (ps : List Nat) (s : Sst (notesT W us L)) (A : List Nat) (E : List (Int × ByteArray)), (∀ k ∈ ps, k < n) → RelF L n 0 s A E → RelF L n 0 (ps.foldl (fun s k => (notesT W us L).step k s) s) (ps.foldl (refStep L) (A, E)).1 (ps.foldl (refStep L) (A, E)).2
  | [], _, _, _, _, h => h
  | k :: ps, s, A, E, hk, h => by
    have h1 := rel_step h (Nat.zero_le k) (hk k (by simp))
    exact rel_picks ps _ _ _ (fun j hj => hk j (by simp [hj])) h1
theorem rel_run {k : Nat} (hk : k < n) : ∀ (d : Nat) (s : Sst (notesT W us L)) (A : List Nat) (E : List (Int × ByteArray)), s.en k = false → (Sk L k).length - locN s k = d → RelF L n k s A E →
    RelF L n (k + 1) (itr ((notesT W us L).step k) (d + 1) s) (itr (fun s => refStep L s k) d (A, E)).1 (itr (fun s => refStep L s k) d (A, E)).2
  | 0, s, A, E, he, hd, h => by
    obtain ⟨hA, hle⟩ := h.go k (Nat.le_refl k) hk he
    have hx : (Sk L k)[locN s k]? = none := List.getElem?_eq_none (by omega)
    rw [itr, itr, itr, step_none he hx]
    refine ⟨h.ev, h.len, fun j hj hjn hej => ?_, fun j hj hjn hej => ?_⟩
    · have hne : j ≠ k := by omega
      simp only [upd_ne _ _ hne] at hej
      exact h.go j (by omega) hjn hej
    · have hne : j ≠ k := by omega
      simp only [upd_ne _ _ hne] at hej
      exact h.done j (by omega) hjn hej
  | d + 1, s, A, E, he, hd, h => by
    have hlt : locN s k < (Sk L k).length := by omega
    obtain ⟨sx, hx⟩ : ∃ sx, (Sk L k)[locN s k]? = some sx := ⟨_, List.getElem?_eq_getElem hlt⟩
    have h1 := rel_step h (Nat.le_refl k) hk
    rw [itr, show itr (fun s => refStep L s k) (d + 1) (A, E) = itr (fun s => refStep L s k) d (refStep L (A, E) k) from rfl]
    have h2 := step_some he hx
    refine rel_run hk d _ _ _ ?_ ?_ h1
    · rw [h2]; exact he
    · rw [h2, show locN (⟨s.en, upd s.loc k (locN s k + 1 : Nat), s.m, s.E ++ [((k : Int), sx)]⟩ : Sst (notesT W us L)) k = locN s k + 1 from upd_same _ _ _]
      omega
theorem rel_drain {k : Nat} (hk : k < n) {s : Sst (notesT W us L)} {A : List Nat} {E : List (Int × ByteArray)} (h : RelF L n k s A E) : RelF L n (k + 1) ((notesT W us L).drain k s) (refDrain L (A, E) k).1 (refDrain L (A, E) k).2 := by
  unfold Tasks.drain refDrain
  cases he : s.en k with
  | true =>
    obtain ⟨x, hx, hlt⟩ := h.done k (Nat.le_refl k) hk he
    rw [itr_id (step_id he), show (Sk L k).length - (A, E).1.getD k 0 = 0 by simp [List.getD_eq_getElem?_getD, hx]; omega]
    exact h.up
  | false =>
    obtain ⟨hA, hle⟩ := h.go k (Nat.le_refl k) hk he
    rw [show (A, E).1.getD k 0 = locN s k by simp [List.getD_eq_getElem?_getD, hA]]
    exact rel_run hk _ s A E he rfl h
theorem rel_drains : ∀ (d k : Nat), k + d = n → ∀ (s : Sst (notesT W us L)) (A : List Nat) (E : List (Int × ByteArray)), RelF L n k s A E →
    ((notesT W us L).drains (List.range' k d) s).E = ((List.range' k d).foldl (refDrain L) (A, E)).2
  | 0, _, _, s, A, E, h => h.ev
  | d + 1, k, hd, s, A, E, h => by
    rw [List.range'_succ, List.foldl_cons]
    exact rel_drains d (k + 1) (by omega) _ _ _ (rel_drain (by omega) h)
/-- THE EVENTS ARE THE DOCUMENT's. -/
theorem fin_ref {ps : List Nat} (hl : L.length = n) (hp : ∀ k ∈ ps, k < n) : ((notesT W us L).fin () n ps).E = refRun L ps := by
  have h0 : RelF L n 0 ((notesT W us L).s0 ()) (List.replicate n 0) [] := by
    refine ⟨rfl, by simp, fun k _ hk _ => ?_, fun k _ _ h => by cases h⟩
    exact ⟨by show (List.replicate n 0)[k]? = some 0; simp [hk], Nat.zero_le _⟩
  have h1 := rel_picks ps _ _ _ hp h0
  have h2 := rel_drains n 0 (by omega) _ _ _ h1
  unfold Tasks.fin refRun
  rw [h2, hl, ← List.range_eq_range']
end
end

/-! ### CwAwk3 -/
section
set_option linter.unusedSimpArgs false
open Go Go.Conc Go.RowKit Go.ConcR.Gen Cw

theorem Keep.trans {a b c : World} (h : Keep a b) (k : Keep b c) : Keep a c := ⟨Nat.le_trans h.1 k.1, fun x hx => (k.2 x (Nat.lt_of_lt_of_le hx h.1)).trans (h.2 x hx)⟩
theorem Keep.ext {a b c : World} (h : Keep a b) (r : Ext Vn b c) : Keep a c := h.trans ⟨r.size, fun x hx => r.same x hx id⟩
theorem keep_of {a b : World} (r : Ext Vn a b) : Keep a b := ⟨r.size, fun x hx => r.same x hx id⟩
theorem evrow_ext {W w : World} {a : Option Addr} {E : List (Int × ByteArray)} (h : EvRow W a E) (r : Ext Vn W w) : EvRow w a E := by
  rcases h with h | ⟨b, o, ha, hc⟩
  · exact .inl h
  · exact .inr ⟨b, o, ha, fun k x hk => ⟨cell_ext r (hc k x hk).1, cell_ext r (hc k x hk).2⟩⟩
abbrev usA (sa sb : Nat) : List Value := [.slice (some ⟨sa, 0, none⟩) 2 2, .slice (some ⟨sb, 0, none⟩) 1 1]
abbrev LA : List (List ByteArray) := [[strA, strB], [strC]]
abbrev EA : List (Int × ByteArray) := [(1, strC), (0, strA), (0, strB)]
theorem refA : refRun LA [1, 0] = EA := by
  simp [refRun, refStep, refDrain, itr, Sk, List.range, List.range.loop]
theorem knA_row {W w : World} {pa sa sb sl : Nat} (h : KnA W pa sa sb sl w) : VRow w (some ⟨sl, 0, none⟩) (usA sa sb) ∧ VRow w (some ⟨pa, 0, none⟩) (ints [1, 0]) ∧ ∀ k, ∃ a c, slK (usA sa sb) k = .slice a (Sk LA k).length c ∧ Nts a (Sk LA k) w := by
  have h1 := (h.2 (sl, Obj.cells #[.slice (some ⟨sa, 0, none⟩) 2 2, .slice (some ⟨sb, 0, none⟩) 1 1] 45 (0, 0)) (by simp)).2
  have h2 := (h.2 (sb, Obj.cells #[.string strC] 9 (0, 0)) (by simp)).2
  have h3 := (h.2 (sa, Obj.cells #[.string strA, .string strB] 9 (0, 0)) (by simp)).2
  have h4 := (h.2 (pa, Obj.cells #[.int .i64 1, .int .i64 0] 3 (0, 0)) (by simp)).2
  simp only at h1 h2 h3 h4
  have two : ∀ {b : Nat} {x y : Value} {ty : TypeId}, w.heap[b]? = some (.cells #[x, y] ty (0, 0)) → ∀ (k : Nat) (u : Value), [x, y][k]? = some u → w.cell? ⟨b, 0 + k, none⟩ = some u := by
    intro b x y ty hb k u hk
    match k with
    | 0 => simp at hk; subst hk; simp [World.cell?, hb]
    | 1 => simp at hk; subst hk; simp [World.cell?, hb]
    | k + 2 => simp at hk
  refine ⟨.inr ⟨sl, 0, rfl, two h1⟩, .inr ⟨pa, 0, rfl, two h4⟩, fun k => ?_⟩
  match k with
  | 0 =>
    refine ⟨some ⟨sa, 0, none⟩, 2, rfl, .inr ⟨sa, 0, rfl, fun k s hk => ?_⟩⟩
    refine two h3 k _ ?_
    match k with
    | 0 => simp [Sk] at hk; subst hk; rfl
    | 1 => simp [Sk] at hk; subst hk; rfl
    | k + 2 => simp [Sk] at hk
  | 1 =>
    refine ⟨some ⟨sb, 0, none⟩, 1, rfl, .inr ⟨sb, 0, rfl, fun k s hk => ?_⟩⟩
    match k with
    | 0 => simp [Sk] at hk; subst hk; simp [World.cell?, h2]
    | k + 1 => simp [Sk] at hk
  | k + 2 => exact ⟨none, 0, rfl, .inl rfl⟩
set_option maxHeartbeats 2000000 in
theorem awake_call [Ref] {Sh : Loc → Prop} {γ : Nat} (hγ : 1 ≤ γ) {Q : World → Prop} {b₀ : Frame} {a₀ : Act} {ops : Array Oper} {j : Nat} {rest : List Nat} {kk : List Item} {cs : List Frame} {m : Machine} {T : Trace}
    (H : Held Tryd.prog (Cx0 Sh) Vn 0 0 γ Gone (fun g w => g = G (fAw #[undef, undef, undef, undef, undef, undef, undef, undef, undef, undef, undef, undef, undef, undef, undef, undef, undef, undef, undef, undef, undef, undef] [.code body9]) (b₀.at a₀ (.inRegion ops (j :: rest) :: kk) :: cs) ∧ ShOk Sh w ∧ Q w) m T) :
    Lands Tryd.prog m T (fun m' T' => ∃ Sh', Held Tryd.prog (Cx0 Sh') Vn 0 0 (γ + 2) Gone (fun g w => ∃ W, g = G (b₀.at (a₀.put ((ops[j]?).bind (·.dst)) (.bool true)) (.inRegion ops rest :: kk)) cs ∧ Q W ∧ Keep W w ∧ ShOk Sh' w) m' T') := by
  obtain ⟨gs, W, sl, q, Rd, B, cn, g, rfl, hgs, hg, ⟨rfl, hS, hQ⟩, hB, C⟩ := H
  have H₀ : Held Tryd.prog (Cx0 Sh) Vn 0 0 γ Gone (fun g w => g = G (fAw #[undef, undef, undef, undef, undef, undef, undef, undef, undef, undef, undef, undef, undef, undef, undef, undef, undef, undef, undef, undef, undef, undef] [.code body9]) (b₀.at a₀ (.inRegion ops (j :: rest) :: kk) :: cs) ∧ Kn W [] w) (crowd gs W sl) T := ⟨gs, W, sl, q, Rd, B, cn, _, rfl, hgs, hg, ⟨rfl, Ext.refl Vn W, by simp⟩, hB, C⟩
  clear hg hB C
  refine (H₀.walk gone_stb fun g w hK => ⟨20, by obtain ⟨rfl, hK⟩ := hK; exact a_begin (mn := (0 == 0)) _ w hK⟩).bind fun m₁ T₁ H₁ => ?_
  obtain ⟨pa, H₁⟩ := H₁.ex
  obtain ⟨sa, H₁⟩ := H₁.ex
  obtain ⟨sb, H₁⟩ := H₁.ex
  obtain ⟨sl, H₁⟩ := H₁.ex
  obtain ⟨Ts, H₁⟩ := H₁.ex
  obtain ⟨⟨s1, s2, s3⟩, H₁⟩ := H₁.and
  refine (H₁.walk (K' := fun g w => ∃ r T', T'.size = 22 ∧ g = G (fRun (entryT (.slice (some ⟨pa, 0, none⟩) 2 2) r) [.code bodyM]) (fAw T' (.inRegion ops9a (5 :: [6, 7, 8, 9, 10]) :: .code (rt (rt body9)) :: []) :: (b₀.at a₀ (.inRegion ops (j :: rest) :: kk) :: cs)) ∧ KnA W pa sa sb sl w ∧ ∃ a c, r = .slice a 2 c ∧ VRow w a (ifs (usA sa sb))) gone_stb fun g w hK => ?_).bind fun m₂ T₂ H₂ => ?_
  · obtain ⟨rfl, hK⟩ := hK
    obtain ⟨kc, hkc⟩ := c_tasks (main := (0 == 0)) (pre_ext hS hK.1) 2 (knA_row hK).1 (by simp) (fun u hu => by simp at hu; rcases hu with rfl | rfl <;> exact ⟨_, _, _, rfl⟩)
    refine ⟨10 + kc + 3, a_run (mn := (0 == 0)) (Q := KnA W pa sa sb sl) (fun w w' h r => h.rl r) (Rs' := fun r w => ∃ a c, r = .slice a 2 c ∧ VRow w a (ifs (usA sa sb))) (fun r w w' h e => by obtain ⟨a, c, h1, h2⟩ := h; exact ⟨a, c, h1, vrow_ext h2 e⟩) _ w hK Ts s1 s2 s3 ((hkc w (Ext.refl Vn w)).mono fun r w' h => ⟨hK.rl h.1, ?_⟩)⟩
    obtain ⟨a, c, h1, h2, _⟩ := own_vrow h.2
    exact ⟨a, c, h1, h2⟩
  -- into sched.Run
  have H₂' := H₂.mono (K' := fun g w => ∃ a c T', T'.size = 22 ∧ (g = G (fRun (entryT (.slice (some ⟨pa, 0, none⟩) 2 2) (.slice a 2 c)) [.code bodyM]) (fAw T' (.inRegion ops9a (5 :: [6, 7, 8, 9, 10]) :: .code (rt (rt body9)) :: []) :: (b₀.at a₀ (.inRegion ops (j :: rest) :: kk) :: cs)) ∧ Pre Sh a (some ⟨pa, 0, none⟩) (usA sa sb) LA [1, 0] w ∧ Keep W w)) (fun g w h => by
    obtain ⟨r, T', h1, h2, h3, a, c, rfl, h5⟩ := h
    exact ⟨a, c, T', h1, h2, ⟨pre_ext hS h3.1, h5, (knA_row h3).2.1, (knA_row h3).2.2⟩, keep_of h3.1⟩) (fun _ _ h => h)
  obtain ⟨al, H₃⟩ := H₂'.ex
  obtain ⟨lc, H₃⟩ := H₃.ex
  obtain ⟨Ts₂, H₃⟩ := H₃.ex
  obtain ⟨p1, H₃⟩ := H₃.and
  refine (run_notes (us := usA sa sb) (L := LA) (ps := [1, 0]) (b₀ := base 4) (a₀ := ⟨Ts₂, []⟩) (ops := ops9a) (j := 5) (rest := [6, 7, 8, 9, 10]) (kk := .code (rt (rt body9)) :: []) hγ (by simp) (by simp) (fun i hi => by simp at hi; rcases hi with rfl | rfl <;> simp) (fun u hu => by simp at hu; rcases hu with rfl | rfl <;> exact ⟨_, _, _, rfl⟩) (fun k => by
    match k with
    | 0 => simp [Sk]
    | 1 => simp [Sk]
    | k + 2 => simp [Sk]) H₃).bind fun m₄ T₄ h => ?_
  obtain ⟨Sh', H₄⟩ := h
  refine Lands.mono ?_ fun m' T' h => ⟨Sh', h⟩
  have H₅ := H₄.mono (K' := fun g w => ∃ a c, g = G ((base 4).at (Act.put ⟨Ts₂, []⟩ ((ops9a[5]?).bind (·.dst)) (.tuple #[.slice a 3 c, .int .i64 0])) (.inRegion ops9a [6, 7, 8, 9, 10] :: .code (rt (rt body9)) :: [])) (b₀.at a₀ (.inRegion ops (j :: rest) :: kk) :: cs) ∧ EvRow w a EA ∧ Keep W w ∧ ShOk Sh' w) (fun g w h => by
    obtain ⟨W₁, u, rfl, _, hkW, hk, hsh, hrow⟩ := h
    have hE : ((notesT W₁ (usA sa sb) LA).fin () 2 [1, 0]).E = EA := by
      rw [fin_ref (n := 2) rfl (fun k hk => by simp at hk; rcases hk with rfl | rfl <;> simp), refA]
    change w.ownsRow W₁.heap.size 70 2 u ((notesT W₁ (usA sa sb) LA).fin () 2 [1, 0]).E.length (evCells ((notesT W₁ (usA sa sb) LA).fin () 2 [1, 0]).E) at hrow
    rw [hE] at hrow
    obtain ⟨a, c, rfl, h2⟩ := own_evrow hrow
    exact ⟨a, c, rfl, h2, hkW.trans hk, hsh⟩) (fun _ _ h => h)
  obtain ⟨ae, H₅⟩ := H₅.ex
  obtain ⟨ce, H₅⟩ := H₅.ex
  obtain ⟨gs, W₂, sl₂, q, Rd, B, cn, g, rfl, hgs, hg, ⟨rfl, hev, hkW, hsh⟩, hB, C⟩ := H₅
  have H₆ : Held Tryd.prog (Cx0 Sh') Vn 0 0 (γ + 2) Gone (fun g w => g = G ((base 4).at (Act.put ⟨Ts₂, []⟩ ((ops9a[5]?).bind (·.dst)) (.tuple #[.slice ae 3 ce, .int .i64 0])) (.inRegion ops9a [6, 7, 8, 9, 10] :: .code (rt (rt body9)) :: [])) (b₀.at a₀ (.inRegion ops (j :: rest) :: kk) :: cs) ∧ Kn W₂ [] w) (crowd gs W₂ sl₂) T₄ := ⟨gs, W₂, sl₂, q, Rd, B, cn, _, rfl, hgs, hg, ⟨rfl, Ext.refl Vn W₂, by simp⟩, hB, C⟩
  clear hg hB C
  refine (H₆.walk gone_stb fun g w hK => ⟨30, by obtain ⟨rfl, hK⟩ := hK; exact a_same (mn := (0 == 0)) (u := .slice ae 3 ce) _ w hK Ts₂ p1⟩).bind fun m₇ T₇ H₇ => ?_
  obtain ⟨sb₂, H₇⟩ := H₇.ex
  obtain ⟨Ts₃, H₇⟩ := H₇.ex
  obtain ⟨⟨q1, q2, q3, q4⟩, H₇⟩ := H₇.and
  refine (H₇.walk (K' := fun g w => g = G (b₀.at (a₀.put ((ops[j]?).bind (·.dst)) (.bool true)) (.inRegion ops rest :: kk)) cs ∧ Ext Vn W₂ w) gone_stb fun g w hK => ?_).mono fun m' T' H => H.mono (fun g w h => ⟨W, h.1, hQ, hkW.ext h.2, pre_ext hsh h.2⟩) (fun _ _ h => h)
  obtain ⟨rfl, hK⟩ := hK
  have hb := (hK.2 (sb₂, Obj.cells #[.int .i64 1, .string strC, .int .i64 0, .string strA, .int .i64 0, .string strB] 40 (0, 0)) (by simp)).2
  simp only at hb
  have h2 : EvRow w (some ⟨sb₂, 0, none⟩) EA := .inr ⟨sb₂, 0, rfl, fun k x hk => by
    match k with
    | 0 => simp at hk; subst hk; simp [World.cell?, hb]
    | 1 => simp at hk; subst hk; simp [World.cell?, hb]
    | 2 => simp at hk; subst hk; simp [World.cell?, hb]
    | k + 3 => simp at hk⟩
  obtain ⟨kc, hkc⟩ := c_same (main := (0 == 0)) (pre_ext hsh hK.1) ce 3 (evrow_ext hev hK.1) h2 (by simp)
  exact ⟨20 + kc + 3, a_out (mn := (0 == 0)) (Q := fun w => Ext Vn W₂ w) (fun w w' h r => h.trans r) hK.1 cs Ts₃ q1 q2 q3 q4 ((hkc w (Ext.refl Vn w)).mono fun r w' h => ⟨by rw [h.1]; simp, hK.1.trans h.2⟩)⟩
end
end Go.Proofs.YtggfcdhkgldbfaaDoor
