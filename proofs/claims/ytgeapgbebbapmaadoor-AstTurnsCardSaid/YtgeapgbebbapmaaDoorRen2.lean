/-
  PLAIN: which names Rename gives, and its errors. WALK: ast.Rename's closure.
-/
import Derived.Test.YtgeapgbebbapmaaDoorRenK
import Derived.Test.YtgeapgbebbapmaaDoorRenM
import Derived.Test.YtgeapgbebbapmaaDoorAst12
import Derived.Test.YtgeapgbebbapmaaDoorMap
import Derived.Deep.QuietTactic
namespace Go.Proofs.YtgeapgbebbapmaaDoor
open Go.RowKit


/-- The map of names. -/
def zipF (fr tos : List Str) : Str → Option Str := fun v => ((fr.zip tos).find? fun p => p.1 == v).map (·.2)
def renF (F : Str → Option Str) (v : Str) : Str := if v = [] then v else (F v).getD v
theorem zipF_succ {fr tos : List Str} {k : Nat} (h : k < fr.length) (h' : k < tos.length) (hn : fr[k] ∉ fr.take k) : updF (zipF (fr.take k) (tos.take k)) fr[k] tos[k] = zipF (fr.take (k + 1)) (tos.take (k + 1)) := by
  funext v
  unfold updF zipF
  rw [List.take_succ_eq_append_getElem h, List.take_succ_eq_append_getElem h', List.zip_append (by simp; omega), List.find?_append]
  have hf : ((fr.take k).zip (tos.take k)).find? (fun p => p.1 == fr[k]) = none := by
    rw [List.find?_eq_none]
    rintro ⟨a, b⟩ hp e
    simp only [beq_iff_eq] at e
    have := (List.of_mem_zip hp).1
    rw [e] at this
    exact hn this
  by_cases hv : v = fr[k]
  · subst hv
    rw [if_pos rfl, hf]
    simp
  · rw [if_neg hv]
    cases hg : ((fr.take k).zip (tos.take k)).find? (fun p => p.1 == v) with
    | some p => rfl
    | none =>
      have : (fr[k] == v) = false := by simpa using fun e => hv e.symm
      simp [this]
theorem zipF_some {fr tos : List Str} (hl : fr.length = tos.length) (v : Str) : (zipF fr tos v).isSome = decide (v ∈ fr) := by
  unfold zipF
  rw [Option.isSome_map, Bool.eq_iff_iff, List.find?_isSome, decide_eq_true_iff]
  constructor
  · rintro ⟨p, hp, e⟩
    rw [beq_iff_eq] at e
    exact e ▸ (List.of_mem_zip hp).1
  · intro h
    obtain ⟨i, hi, rfl⟩ := List.getElem_of_mem h
    refine ⟨(fr[i], tos[i]'(by omega)), ?_, by simp⟩
    rw [List.mem_iff_getElem]
    exact ⟨i, by simp; omega, by simp⟩
theorem zipF_mem {fr tos : List Str} {v n : Str} (h : zipF fr tos v = some n) : n ∈ tos := by
  unfold zipF at h
  rw [Option.map_eq_some_iff] at h
  obtain ⟨p, hp, rfl⟩ := h
  exact (List.of_mem_zip (List.mem_of_find?_eq_some hp)).2
theorem zipF_nil : zipF [] [] = fun _ => none := rfl
/-- A list tells something twice. -/
def dupB (l : List Str) : Bool := !decide l.Nodup
theorem dup_at {l : List Str} {k : Nat} (h : k < l.length) (hm : l[k] ∈ l.take k) : dupB l = true := by
  unfold dupB
  rw [Bool.not_eq_true', decide_eq_false_iff_not]
  intro hn
  obtain ⟨i, hi, e⟩ := List.getElem_of_mem hm
  rw [List.length_take] at hi
  rw [List.getElem_take] at e
  have h1 := List.nodup_iff_pairwise_ne.1 hn
  rw [List.pairwise_iff_getElem] at h1
  exact h1 i k (by omega) h (by omega) e
theorem nodup_take {l : List Str} {k : Nat} (h : k < l.length) (hn : (l.take k).Nodup) (hm : l[k] ∉ l.take k) : (l.take (k + 1)).Nodup := by
  rw [List.take_succ_eq_append_getElem h, List.nodup_append]
  exact ⟨hn, by simp, fun a ha b hb => by rw [List.mem_singleton] at hb; subst hb; rintro rfl; exact hm ha⟩
theorem dup_not {l : List Str} (h : l.Nodup) : dupB l = false := by unfold dupB; simp [h]
/-- The error of Rename. -/
def renE (q : Qry) (fr tos : List Str) : Int :=
  if checkQ q ≠ 0 then checkQ q
  else if fr.length ≠ tos.length then 1
  else if dupB fr = true then 8
  else if (q.rules.any fun r => dupB ((varsL r).map (renF (zipF fr tos)))) = true then 8
  else checkQ (mapQ (renF (zipF fr tos)) q)
theorem renE_check {q : Qry} {fr tos : List Str} (h : checkQ q ≠ 0) : renE q fr tos = checkQ q := by unfold renE; rw [if_pos h]
theorem renE_len {q : Qry} {fr tos : List Str} (h : checkQ q = 0) (h2 : fr.length ≠ tos.length) : renE q fr tos = 1 := by unfold renE; rw [if_neg (by simpa using h), if_pos h2]
theorem renE_dup {q : Qry} {fr tos : List Str} (h : checkQ q = 0) (h2 : fr.length = tos.length) (h3 : dupB fr = true) : renE q fr tos = 8 := by unfold renE; rw [if_neg (by simpa using h), if_neg (by simpa using h2), if_pos h3]
theorem renE_rule {q : Qry} {fr tos : List Str} (h : checkQ q = 0) (h2 : fr.length = tos.length) (h3 : fr.Nodup) {k : Nat} (hk : k < q.rules.length) (h4 : dupB ((varsL q.rules[k]).map (renF (zipF fr tos))) = true) : renE q fr tos = 8 := by
  unfold renE
  rw [if_neg (by simpa using h), if_neg (by simpa using h2), if_neg (by rw [dup_not h3]; decide), if_pos (List.any_eq_true.2 ⟨_, List.getElem_mem hk, h4⟩)]
theorem renE_end {q : Qry} {fr tos : List Str} (h : checkQ q = 0) (h2 : fr.length = tos.length) (h3 : fr.Nodup) (h4 : ∀ i (hi : i < q.rules.length), ((varsL q.rules[i]).map (renF (zipF fr tos))).Nodup) : renE q fr tos = checkQ (mapQ (renF (zipF fr tos)) q) := by
  unfold renE
  rw [if_neg (by simpa using h), if_neg (by simpa using h2), if_neg (by rw [dup_not h3]; decide), if_neg]
  rw [List.any_eq_true]
  rintro ⟨r, hr, e⟩
  obtain ⟨i, hi, rfl⟩ := List.getElem_of_mem hr
  rw [dup_not (h4 i hi)] at e
  cases e
/-- What an accepted renaming keeps. -/
theorem renE_zero {q : Qry} {fr tos : List Str} (h : renE q fr tos = 0) : checkQ q = 0 ∧ fr.length = tos.length ∧ fr.Nodup ∧ (∀ r ∈ q.rules, ((varsL r).map (renF (zipF fr tos))).Nodup) ∧ checkQ (mapQ (renF (zipF fr tos)) q) = 0 := by
  unfold renE at h
  by_cases h1 : checkQ q ≠ 0
  · rw [if_pos h1] at h; exact absurd h h1
  rw [if_neg h1] at h
  by_cases h2 : fr.length ≠ tos.length
  · rw [if_pos h2] at h; exact absurd h (by decide)
  rw [if_neg h2] at h
  by_cases h3 : dupB fr = true
  · rw [if_pos h3] at h; exact absurd h (by decide)
  rw [if_neg h3] at h
  by_cases h4 : (q.rules.any fun r => dupB ((varsL r).map (renF (zipF fr tos)))) = true
  · rw [if_pos h4] at h; exact absurd h (by decide)
  rw [if_neg h4] at h
  refine ⟨by simpa using h1, by simpa using h2, ?_, fun r hr => ?_, h⟩
  · unfold dupB at h3
    simpa using h3
  · rw [List.any_eq_true] at h4
    by_cases hn : ((varsL r).map (renF (zipF fr tos))).Nodup
    · exact hn
    · exact absurd ⟨r, hr, by unfold dupB; simp [hn]⟩ h4
theorem headGo_nodup : ∀ {l pre : List Str}, headGo pre l = 0 → pre.Nodup → (pre ++ l).Nodup
  | [], pre, _, h => by simpa using h
  | v :: l, pre, h, hp => by
    unfold headGo at h
    split at h
    · exact absurd h (by decide)
    · split at h
      · exact absurd h (by decide)
      · rename_i _ hv
        have := headGo_nodup h (by
          rw [List.nodup_append]
          exact ⟨hp, by simp, fun a ha b hb => by rw [List.mem_singleton] at hb; subst hb; rintro rfl; exact hv ha⟩)
        simpa using this
theorem orderGo_few : ∀ {hd : List Str} {l : List Ky} {pre : List Str}, orderGo hd pre l = 0 → pre.Nodup → (pre ++ l.map (·.v)).Nodup ∧ ∀ k ∈ l, k.v ∈ hd
  | _, [], pre, _, h => ⟨by simpa using h, fun k hk => by cases hk⟩
  | hd, k :: l, pre, h, hp => by
    unfold orderGo at h
    split at h
    · rename_i hm
      split at h
      · exact absurd h (by decide)
      · rename_i hv
        have := orderGo_few h (by
          rw [List.nodup_append]
          exact ⟨hp, by simp, fun a ha b hb => by rw [List.mem_singleton] at hb; subst hb; rintro rfl; exact hv ha⟩)
        refine ⟨by simpa using this.1, fun x hx => ?_⟩
        rcases List.mem_cons.1 hx with rfl | hx
        · exact hm
        · exact this.2 x hx
    · exact absurd h (by decide)
theorem nodup_leS : ∀ {l m : List Str}, l.Nodup → (∀ x ∈ l, x ∈ m) → l.length ≤ m.length
  | [], _, _, _ => by simp
  | x :: l, m, hl, h => by
    rw [List.nodup_cons] at hl
    have hx := h x (List.mem_cons_self ..)
    have h1 := nodup_leS (l := l) (m := m.erase x) hl.2 fun y hy => by
      have hne : y ≠ x := fun e => hl.1 (e ▸ hy)
      exact (List.mem_erase_of_ne hne).2 (h y (List.mem_cons_of_mem _ hy))
    rw [List.length_erase_of_mem hx] at h1
    have := List.length_pos_of_mem hx
    simp only [List.length_cons]; omega
theorem check_some {q : Qry} (h : checkQ q = 0) : q.some := by
  obtain ⟨⟨_, h1⟩, h2⟩ := check_few h
  have h3 := check_head h
  refine ⟨by omega, by omega, ?_, fun r hr => ?_⟩
  · have h4 : orderE q = 0 := (check_parts h).2.2.2.2.2.2
    have h5 := orderGo_few (hd := q.head) (l := q.order) (pre := []) h4 (by simp)
    have h6 := nodup_leS (l := q.order.map (·.v)) (m := q.head) (by simpa using h5.1) (fun x hx => by
      obtain ⟨k, hk, rfl⟩ := List.mem_map.1 hx
      exact h5.2 k hk)
    rw [List.length_map] at h6
    omega
  · have := h2 r hr
    exact ⟨by have := this.a; omega, by have := this.c; omega, fun a ha => by have := this.t a ha; omega⟩
theorem check_vars {q : Qry} (h : checkQ q = 0) {r : Rul} (hr : r ∈ q.rules) : (varsL r).length ≤ 8 := by
  have h6 := firstE_zero (check_parts h).2.2.2.2.2.1 r hr
  unfold ruleE at h6
  by_cases hi : itemsE r = 0
  · rw [if_pos hi] at h6
    by_cases hm : 8 < (varsL r).length
    · rw [if_pos hm] at h6; exact absurd h6 (by decide)
    · omega
  · rw [if_neg hi] at h6; exact absurd h6 hi
theorem renF_len {fr tos : List Str} (ht : ∀ s ∈ tos, s.length ≤ 9223372036854775807) {v : Str} (hv : v.length ≤ 9223372036854775807) : (renF (zipF fr tos) v).length ≤ 9223372036854775807 := by
  unfold renF
  split
  · exact hv
  · cases h : zipF fr tos v with
    | none => exact hv
    | some n => exact ht n (zipF_mem h)
theorem map_wf {q : Qry} (h : q.wf) {f : Str → Str} (hf : ∀ v : Str, v.length ≤ 9223372036854775807 → (f v).length ≤ 9223372036854775807) : (mapQ f q).wf := by
  refine ⟨fun x hx => ?_, h.agg, hf _ h.aggVar, fun r hr => ?_, fun k hk => ?_⟩
  · obtain ⟨v, hv, rfl⟩ := List.mem_map.1 hx
    exact hf _ (h.head v hv)
  · obtain ⟨r0, hr0, rfl⟩ := List.mem_map.1 hr
    have h0 := h.rules r0 hr0
    refine ⟨fun a ha => ?_, fun c hc => ?_⟩
    · obtain ⟨a0, ha0, rfl⟩ := List.mem_map.1 ha
      refine ⟨(h0.atoms a0 ha0).rel, fun t ht => ?_⟩
      obtain ⟨t0, ht0, rfl⟩ := List.mem_map.1 ht
      exact ⟨hf _ ((h0.atoms a0 ha0).ts t0 ht0).v, ((h0.atoms a0 ha0).ts t0 ht0).c⟩
    · obtain ⟨c0, hc0, rfl⟩ := List.mem_map.1 hc
      exact ⟨hf _ (h0.conds c0 hc0).v, (h0.conds c0 hc0).op, (h0.conds c0 hc0).c⟩
  · obtain ⟨k0, hk0, rfl⟩ := List.mem_map.1 hk
    exact hf _ (h.order k0 hk0)

theorem ES_ok : ES.Ok Tryd.prog 9 := ES.ok Tryd.underlying9 Tryd.zeroValue9
/-- The map of names in memory, and the variable that holds it. -/
def NmMap (w : World) (gb bm n : Nat) (F : Str → Option Str) : Prop := MapAt Tryd.prog 9 9 ES w bm n F ∧ w.heap[gb]? = some (.cells #[.map (some bm)] 85 (0, 0))
theorem NmMap.below {w w' : World} {gb bm n : Nat} {F : Str → Option Str} (h : NmMap w gb bm n F) (hb : Below w.heap.size w w') : NmMap w' gb bm n F := ⟨MapAt.below h.1 hb, (hb.block _ (lt_of_block h.2)).trans h.2⟩

set_option maxRecDepth 100000 in
set_option maxHeartbeats 4000000 in
theorem ast_rename1 (X : ByteArray) (gb bm n : Nat) (F : Str → Option Str) (w : World) (h : NmMap w gb bm n F) (hX : X.size ≤ maxLen) :
    Calls Tryd.prog 44 #[.string X, .pointer (some ⟨gb, 0, none⟩)] w fun e w' => e = .returned (.string ⟨(renF F X.data.toList).toArray⟩) ∧ Below w.heap.size w w' := by
  obtain ⟨h1, h2⟩ := h
  obtain ⟨x, hx⟩ : ∃ x, X.data.toList = x := ⟨_, rfl⟩
  have HM := hid h1
  have HX := hid hx
  have c0 := cell_of_one h2
  obtain ⟨Z0, hZ0, _, hZ1⟩ := nm x
  have hxx : X = ⟨x.toArray⟩ := by rw [← hx]
  have hno := noS (Y := X) (l := x) (by rw [hxx, hZ0]; exact hZ1)
  have HXX := hid hxx
  clear hZ0 hZ1
  rw [hx]
  clear h1 h2 hx hxx
  cases hF : F x with
  | none =>
    have hr : renF F x = x := by unfold renF; split <;> simp [hF]
    have hv : ES.R ((F X.data.toList).getD ES.zero) = .string ⟨#[]⟩ := by rw [HX.out, hF]; rfl
    have hy : (F X.data.toList).isSome = false := by rw [HX.out, hF]; rfl
    have HV := hid hv
    have HY := hid hy
    have HR := hid hr
    clear hF hr hv hy hno
    go_enter Tryd.func44, Tryd.ntmps44
    go_wp2_with (at_lookup; refine wpList_lookOk rfl _ _ rfl HM.out ES_ok Tryd.underlying9 Tryd.underlying85 rfl X rfl hX (.string ⟨#[]⟩) HV.out false HY.out ?_)
    go_ret
    refine ⟨?_, Below.refl _ _⟩
    rw [HR.out, ← HXX.out]; rfl
  | some m =>
    have hv : ES.R ((F X.data.toList).getD ES.zero) = .string ⟨m.toArray⟩ := by rw [HX.out, hF]; rfl
    have hy : (F X.data.toList).isSome = true := by rw [HX.out, hF]; rfl
    have HV := hid hv
    have HY := hid hy
    by_cases h0 : x = []
    · have hr : renF F x = x := by unfold renF; rw [if_pos h0]
      have hz : X.toList.isEmpty = true := by rw [hno]; simpa using h0
      have HR := hid hr
      clear hF hr hv hy hno h0
      go_enter Tryd.func44, Tryd.ntmps44
      go_wp2_with (at_lookup; refine wpList_lookOk rfl _ _ rfl HM.out ES_ok Tryd.underlying9 Tryd.underlying85 rfl X rfl hX (.string ⟨m.toArray⟩) HV.out true HY.out ?_)
      go_ret
      refine ⟨?_, Below.refl _ _⟩
      rw [HR.out, ← HXX.out]; rfl
    · have hr : renF F x = m := by unfold renF; rw [if_neg h0, hF]; rfl
      have hz : X.toList.isEmpty = false := by rw [hno]; simpa using h0
      have HR := hid hr
      clear hF hr hv hy hno h0
      go_enter Tryd.func44, Tryd.ntmps44
      go_wp2_with (at_lookup; refine wpList_lookOk rfl _ _ rfl HM.out ES_ok Tryd.underlying9 Tryd.underlying85 rfl X rfl hX (.string ⟨m.toArray⟩) HV.out true HY.out ?_)
      go_ret
      refine ⟨?_, Below.refl _ _⟩
      rw [HR.out]; rfl
end Go.Proofs.YtgeapgbebbapmaaDoor
