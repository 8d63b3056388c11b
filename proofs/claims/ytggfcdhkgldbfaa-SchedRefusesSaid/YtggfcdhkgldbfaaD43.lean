/-
  PARTS of a claim, merged by segs.py: CwFin, CwFew.
-/
import Derived.Test.YtggfcdhkgldbfaaD38
import Derived.Test.YtggfcdhkgldbfaaD42
import Derived.Test.YtggfcdhkgldbfaaD25
namespace Go.Proofs.Ytggfcdhkgldbfaa
set_option linter.unusedSimpArgs false
set_option linter.unusedVariables false

/-! ### CwFin -/
section
set_option linter.unusedSimpArgs false
open Go Go.Conc Go.RowKit Go.ConcR.Gen Cw

/-! ### rows of memory -/
theorem cell_kp {W w : World} (h : Keep W w) {a : Addr} {v : Value} (hc : W.cell? a = some v) : w.cell? a = some v := by
  rw [cell_of_block (h.2 _ (block_of_cell hc))]; exact hc
theorem vrow_kp {W w : World} (h : Keep W w) {a : Option Addr} {us : List Value} (x : VRow W a us) : VRow w a us := by
  rcases x with x | ⟨b, o, ha, hc⟩
  · exact .inl x
  · exact .inr ⟨b, o, ha, fun k u hk => cell_kp h (hc k u hk)⟩
theorem evrow_kp {W w : World} (h : Keep W w) {a : Option Addr} {E : List (Int × ByteArray)} (x : EvRow W a E) : EvRow w a E := by
  rcases x with x | ⟨b, o, ha, hc⟩
  · exact .inl x
  · exact .inr ⟨b, o, ha, fun k x hk => ⟨cell_kp h (hc k x hk).1, cell_kp h (hc k x hk).2⟩⟩
theorem nts_kp {W w : World} (h : Keep W w) {a : Option Addr} {S : List ByteArray} (x : Nts a S W) : Nts a S w := by
  rcases x with x | ⟨b, o, ha, hc⟩
  · exact .inl x
  · exact .inr ⟨b, o, ha, fun k x hk => cell_kp h (hc k x hk)⟩
theorem strrows_kp {W w : World} (h : Keep W w) {v : Value} {L : List (List ByteArray)} (x : StrRows W v L) : StrRows w v L := by
  obtain ⟨a, cap, rfl, x⟩ := x
  refine ⟨a, cap, rfl, ?_⟩
  rcases x with x | ⟨b, o, ha, hc⟩
  · exact .inl x
  · refine .inr ⟨b, o, ha, fun k S hk => ?_⟩
    obtain ⟨u, hu, a', c', rfl, hn⟩ := hc k S hk
    exact ⟨_, cell_kp h hu, a', c', rfl, nts_kp h hn⟩
/-- The rows' headers, as a list. -/
theorem rows_us {W : World} {v : Value} {L : List (List ByteArray)} (x : StrRows W v L) : ∃ a cap us, v = .slice a L.length cap ∧ us.length = L.length ∧ VRow W a us ∧ (∀ u ∈ us, IsSl u) ∧ ∀ k, ∃ a c, slK us k = .slice a (Sk L k).length c ∧ Nts a (Sk L k) W := by
  obtain ⟨a, cap, rfl, x⟩ := x
  rcases x with rfl | ⟨b, o, rfl, hc⟩
  · exact ⟨a, cap, [], rfl, rfl, .inl rfl, fun u hu => by simp at hu, fun k => ⟨none, 0, by simp [slK, Sk], .inl (by simp [Sk])⟩⟩
  · have key : ∀ k, k < L.length → ∃ S, L[k]? = some S ∧ ∃ a c, (W.cell? ⟨b, o + k, none⟩) = some (.slice a S.length c) ∧ Nts a S W := fun k hk => by
      obtain ⟨u, hu, a', c', rfl, hn⟩ := hc k _ (List.getElem?_eq_getElem hk)
      exact ⟨_, List.getElem?_eq_getElem hk, a', c', hu, hn⟩
    refine ⟨some ⟨b, o, none⟩, cap, (List.range L.length).map fun k => (W.cell? ⟨b, o + k, none⟩).getD undef, rfl, by simp, .inr ⟨b, o, rfl, fun k u hk => ?_⟩, fun u hu => ?_, fun k => ?_⟩
    · rw [List.getElem?_map] at hk
      obtain ⟨j, hj, rfl⟩ := Option.map_eq_some_iff.1 hk
      obtain ⟨hlt, rfl⟩ := List.getElem?_eq_some_iff.1 hj
      simp only [List.length_range] at hlt
      simp only [List.getElem_range]
      obtain ⟨S, _, a', c', hu, _⟩ := key k hlt
      rw [hu]; rfl
    · obtain ⟨j, hj, rfl⟩ := List.mem_map.1 hu
      obtain ⟨S, _, a', c', hu, _⟩ := key j (List.mem_range.1 hj)
      rw [hu]; exact ⟨_, _, _, rfl⟩
    · by_cases hk : k < L.length
      · obtain ⟨S, hS, a', c', hu, hn⟩ := key k hk
        have hS' := (List.getElem?_eq_some_iff.1 hS).2
        refine ⟨a', c', ?_, ?_⟩
        · simp [slK, Sk, hk, hu, hS']
        · simpa [Sk, hS] using hn
      · exact ⟨none, 0, by simp [slK, Sk, hk], .inl (by simp [Sk, hk])⟩
theorem rin_of {W : World} {lp lo : Nat} {us : List Value} {L : List (List ByteArray)} (h : VRow W (some ⟨lp, lo, none⟩) us) (hk : ∀ k, ∃ a c, slK us k = .slice a (Sk L k).length c ∧ Nts a (Sk L k) W) (hb : ∀ k, (Sk L k).length ≤ 1000000) : Rin W lp lo us L := by
  refine ⟨fun k u hu => ?_, fun k hlt => ?_, hb⟩
  · rcases h with rfl | ⟨b, o, e, hc⟩
    · simp at hu
    · cases e; exact hc k u hu
  · obtain ⟨a, c, e, hn⟩ := hk k
    refine ⟨a, c, ?_, hn⟩
    rw [← e]
    simp [slK, hlt]
theorem refRun_nil {L : List (List ByteArray)} {ps : List Nat} (hL : L = []) (hp : ∀ x ∈ ps, x < L.length) : refRun L ps = [] := by
  subst hL
  have : ps = [] := List.eq_nil_iff_forall_not_mem.2 fun x hx => by have := hp x hx; simp at this
  subst this
  simp [refRun]
/-- ref.Run, whatever the rows are. -/
theorem c_refrun {Sh : Loc → Prop} {W : World} {main : Bool} (hS : ShOk Sh W) {al ap : Option Addr} {us : List Value} {L : List (List ByteArray)} {ps : List Nat} (lcap pcap : Nat)
    (hp : VRow W ap (ints ps)) (hl : VRow W al us) (hul : us.length = L.length) (hk : ∀ k, ∃ a c, slK us k = .slice a (Sk L k).length c ∧ Nts a (Sk L k) W) (hb : ∀ k, (Sk L k).length ≤ 1000000) (hn : L.length ≤ 64) (hps : ∀ x ∈ ps, x < L.length) (hpl : ps.length ≤ 4096) :
    ∃ k, ∀ w, Ext Vn W w → CallsC Try.prog main (Ext Vn) (HDq (Cx0 Sh)) 13 #[.slice ap ps.length pcap, .slice al L.length lcap] k w (fun r w' => Ext Vn W w' ∧ w'.ownsRow W.heap.size 41 2 r (refRun L ps).length (evCells (refRun L ps))) := by
  have hp0 : L.length ≤ 0 → ps.length ≤ 0 := fun h => by
    rw [show ps = [] from List.eq_nil_iff_forall_not_mem.2 fun x hx => by have := hps x hx; omega]; simp
  by_cases h0 : L.length ≤ 0
  · exact c_ref0 hS (al := al) (ap := ap) (us := us) lcap pcap hn h0 (hp0 h0) (refRun_nil (List.eq_nil_of_length_eq_zero (by omega)) hps)
  · have hl' := hl
    rcases hl with rfl | ⟨lp, lo, rfl, hc⟩
    · simp at hul; omega
    · have hI := rin_of hl' hk hb
      by_cases h1 : ps = []
      · exact c_ref1 hS (al := none) (ap := ap) lcap pcap hI (by omega) rfl hn (by simp [h1]) h1
      · rcases hp with e | ⟨pp, po, rfl, hpc⟩
        · exact absurd (List.map_eq_nil_iff.1 e) h1
        · exact c_ref2 hS lcap pcap hI (by omega) rfl hn (fun k x hx => hpc k _ (by simp [ints, hx])) hps hpl

/-! ### the frame -/
theorem Held.anchor [Ref] {P : Program} {X : Cx} {V : Nat → Prop} {h dh n : Nat} {Bp : (Nat → By) → (Nat → Nat) → Prop} {g₀ : Goroutine} {A : World → Prop} {m : Machine} {T : Trace} (H : Held P X V h dh n Bp (fun g w => g = g₀ ∧ A w) m T) : ∃ W, A W ∧ Held P X V h dh n Bp (fun g w => g = g₀ ∧ Ext V W w) m T := by
  obtain ⟨gs, w, sl, q, Rd, B, cn, g, rfl, hn, hg, ⟨rfl, hA⟩, hB, C⟩ := H
  exact ⟨w, hA, gs, w, sl, q, Rd, B, cn, _, rfl, hn, hg, ⟨rfl, Ext.refl V w⟩, hB, C⟩
/-- The call's beginning. -/
theorem held_init [R0 : Ref] (P : Program) (g : Goroutine) : Held P (Cx0 fun _ => False) Vn 0 0 1 Gone (fun g' w => g' = g ∧ Ext Vn R0.w w) (solo g R0.w) #[] := by
  rw [solo_eq_crowd]
  exact ⟨_, _, _, _, _, _, _, g, rfl, rfl, rfl, ⟨rfl, Ext.refl Vn _⟩, fun _ _ => rfl, crew_init P g R0.w, rfl, rfl⟩
/-- What a call leaves. -/
structure Leaves (W w : World) : Prop where
  keep : Keep W w
  os : w.os = W.os
  output : w.output = W.output
/-- The call's end. -/
theorem Held.finish [R0 : Ref] {P : Program} {K : Goroutine → World → Prop} {Post : Value → World → Prop} {m : Machine} {T : Trace} (H : Lands P m T (fun m' T' => ∃ Sh γ, Held P (Cx0 Sh) Vn 0 0 γ Gone K m' T'))
    (hK : ∀ Sh g w, K g w → Outs w → ∀ d, AtFin P (Cx0 Sh) Post g (w.at d)) :
    ∃ M last o w' t', runNT P (M + 1) m T = (.ended o w', t') ∧ runN P M m = .next last ∧ step P last = .ended o w' ∧ Go.Conc.Good P Post last o w' t' := by
  obtain ⟨N, m', T', hr, Sh, γ, gs, w, sl, q, Rd, B, cn, g, rfl, hn, hg, hk, hB, C⟩ := H
  obtain ⟨N₂, last, o, w', t', h1, h2, h3, h4⟩ := C.toCrew.ends hB (D := HDq (Cx0 Sh)) (n := 0) (Post := Post) (fun _ _ _ x => x) (sl := sl) hg (Goes.stop fun w' hw => by obtain ⟨d, rfl⟩ := hw; exact hK Sh g w hk C.sys d)
  refine ⟨N + N₂, last, o, w', t', ?_, ?_, h3, h4⟩
  · rw [show N + N₂ + 1 = N + (N₂ + 1) by omega, runNT_add, hr]; exact h1
  · rw [runN_add, ← runNT_fst P _ _ T, hr]; exact h2
end

/-! ### CwFew -/
section
set_option linter.unusedSimpArgs false
open Go Go.Conc Go.RowKit Go.ConcR.Gen Cw

def fewB (np : Nat) (L : List (List ByteArray)) : Bool := L.all (fun S => S.length ≤ 20) && (np ≤ 100 && L.length ≤ 10)
set_option maxRecDepth 100000 in
set_option maxHeartbeats 2000000 in
theorem c_few {Sh : Loc → Prop} {W : World} {main : Bool} (hS : ShOk Sh W) (a : Option Addr) (np pcap : Nat) {v : Value} {L : List (List ByteArray)} (hL : StrRows W v L) (hn : L.length < 9223372036854775807) (hln : ∀ S ∈ L, S.length < 9223372036854775807) (hnp : np < 9223372036854775807) :
    ∃ k, ∀ w, Ext Vn W w → CallsC Try.prog main (Ext Vn) (HDq (Cx0 Sh)) 8 #[.slice a np pcap, v] k w (fun r w' => r = .bool (fewB np L) ∧ Ext Vn W w') := by
  obtain ⟨al, lcap, rfl, hL⟩ := hL
  have rl : ∀ {w w' : World}, Ext Vn W w → Ext Vn w w' → Ext Vn W w' := fun h r => h.trans r
  rcases hL with hL | ⟨p, o, rfl, hcs⟩
  · have hL0 : L.length ≤ 0 := by rw [hL]; simp
    clear hL
    by_cases hb : np ≤ 100
    · have hb1 : (decide ((np : Int) ≤ 100)) = true := by simp; omega
      co_apply Exists.intro
      intro w hF
      co_apply callsC_of_wpC Try.func8 (by rfl) rfl
      simp only [Try.ntmps8, List.size_toArray, List.length_cons, List.length_nil, Nat.reduceAdd, Nat.reduceSub, Array.replicate_succ, Array.replicate_zero, List.push_toArray, List.append_toArray, List.nil_append, List.cons_append]
      co_apply wpC_seq (TT Sh)
      co_reg (TT Sh)
      co_op rl hF (co_quiet (TT Sh))
      co_apply opsC_nil (TT Sh)
      co_then
      co_apply wpC_seq (TT Sh)
      co_apply wpC_seq (TT Sh)
      co_reg (TT Sh)
      co_op rl hF (co_quiet (TT Sh))
      co_op rl hF (co_quiet (TT Sh))
      co_op rl hF (co_quiet (TT Sh))
      co_apply opsC_nil (TT Sh)
      co_then
      co_apply wpC_block (TT Sh)
      co_apply wpC_loop (TT Sh) (fun a' w' => ∃ (T : Array Value) (i : Nat), a' = ⟨T, []⟩ ∧ T.size = 25 ∧ T[0]? = some (.slice a np pcap) ∧ T[1]? = some (.slice al L.length lcap) ∧ T[4]? = some (.bool false) ∧ T[7]? = some (.slice al L.length lcap) ∧ T[8]? = some (.int .i64 L.length) ∧ T[9]? = some (.int .i64 i) ∧ i ≤ L.length ∧ (∀ S ∈ L.take i, S.length ≤ 20) ∧ Ext Vn W w') (fun a' _ => L.length - slotN a' 9) _ (L.length)
      · exact ⟨_, 0, rfl, rfl, rfl, rfl, rfl, rfl, rfl, rfl, by omega, by simp, hF⟩
      · simp [slotN]
      clear hF w
      rintro a' w ⟨T, i, rfl, hT, h0, h1, h4, h7, h8, h9, hi, hall, hF⟩
      obtain ⟨v0, v1, v2, v3, v4, v5, v6, v7, v8, v9, v10, v11, v12, v13, v14, v15, v16, v17, v18, v19, v20, v21, v22, v23, v24, rfl⟩ := arr25 T hT
      simp only [List.getElem?_toArray, List.getElem?_cons_zero, List.getElem?_cons_succ, Option.some.injEq] at h0 h1 h4 h7 h8 h9
      subst h0
      subst h1
      subst h4
      subst h7
      subst h8
      subst h9
      co_apply wpC_seq (TT Sh)
      co_reg (TT Sh)
      co_op rl hF (co_quiet (TT Sh))
      co_apply opsC_nil (TT Sh)
      co_then
      co_apply wpC_seq (TT Sh) (n₂ := 0)
      co_split (TT Sh) (decide ((i : Int) < (L.length : Int)))
      · intro ht
        exact wpC_absurd (by have : i < L.length := (by simpa using ht); omega)
      · intro ht
        have hil : i = L.length := by have : ¬ i < L.length := (by simpa using ht); omega
        co_apply wpC_exit (TT Sh)
        co_then
        co_apply wpC_seq (TT Sh)
        co_reg (TT Sh)
        co_op rl hF (co_quiet (TT Sh))
        co_op rl hF (co_quiet (TT Sh))
        co_op rl hF (co_quiet (TT Sh))
        co_op rl hF (co_quiet (TT Sh))
        co_op rl hF (co_quiet (TT Sh))
        co_op rl hF (co_quiet (TT Sh))
        co_op rl hF (co_quiet (TT Sh))
        co_op rl hF (co_quiet (TT Sh))
        co_op rl hF (co_quiet (TT Sh))
        co_apply opsC_nil (TT Sh)
        co_then
        co_apply wpC_ret (TT Sh)
        try co_then
        refine ⟨rfl, _, resultsC_tmp (by rfl) _, ?_, hF⟩
        have hal : L.all (fun S => S.length ≤ 20) = true := by
          rw [List.all_eq_true]
          intro S hS
          have := hall S (by rw [List.take_of_length_le (by omega)]; exact hS)
          simpa using this
        unfold fewB
        rw [hal, Bool.true_and]
        rw [decide_eq_true hb, Bool.true_and]
        exact congrArg Value.bool (decide_eq_decide.2 (by omega))
    · have hb1 : (decide ((np : Int) ≤ 100)) = false := by simp; omega
      co_apply Exists.intro
      intro w hF
      co_apply callsC_of_wpC Try.func8 (by rfl) rfl
      simp only [Try.ntmps8, List.size_toArray, List.length_cons, List.length_nil, Nat.reduceAdd, Nat.reduceSub, Array.replicate_succ, Array.replicate_zero, List.push_toArray, List.append_toArray, List.nil_append, List.cons_append]
      co_apply wpC_seq (TT Sh)
      co_reg (TT Sh)
      co_op rl hF (co_quiet (TT Sh))
      co_apply opsC_nil (TT Sh)
      co_then
      co_apply wpC_seq (TT Sh)
      co_apply wpC_seq (TT Sh)
      co_reg (TT Sh)
      co_op rl hF (co_quiet (TT Sh))
      co_op rl hF (co_quiet (TT Sh))
      co_op rl hF (co_quiet (TT Sh))
      co_apply opsC_nil (TT Sh)
      co_then
      co_apply wpC_block (TT Sh)
      co_apply wpC_loop (TT Sh) (fun a' w' => ∃ (T : Array Value) (i : Nat), a' = ⟨T, []⟩ ∧ T.size = 25 ∧ T[0]? = some (.slice a np pcap) ∧ T[1]? = some (.slice al L.length lcap) ∧ T[4]? = some (.bool false) ∧ T[7]? = some (.slice al L.length lcap) ∧ T[8]? = some (.int .i64 L.length) ∧ T[9]? = some (.int .i64 i) ∧ i ≤ L.length ∧ (∀ S ∈ L.take i, S.length ≤ 20) ∧ Ext Vn W w') (fun a' _ => L.length - slotN a' 9) _ (L.length)
      · exact ⟨_, 0, rfl, rfl, rfl, rfl, rfl, rfl, rfl, rfl, by omega, by simp, hF⟩
      · simp [slotN]
      clear hF w
      rintro a' w ⟨T, i, rfl, hT, h0, h1, h4, h7, h8, h9, hi, hall, hF⟩
      obtain ⟨v0, v1, v2, v3, v4, v5, v6, v7, v8, v9, v10, v11, v12, v13, v14, v15, v16, v17, v18, v19, v20, v21, v22, v23, v24, rfl⟩ := arr25 T hT
      simp only [List.getElem?_toArray, List.getElem?_cons_zero, List.getElem?_cons_succ, Option.some.injEq] at h0 h1 h4 h7 h8 h9
      subst h0
      subst h1
      subst h4
      subst h7
      subst h8
      subst h9
      co_apply wpC_seq (TT Sh)
      co_reg (TT Sh)
      co_op rl hF (co_quiet (TT Sh))
      co_apply opsC_nil (TT Sh)
      co_then
      co_apply wpC_seq (TT Sh) (n₂ := 0)
      co_split (TT Sh) (decide ((i : Int) < (L.length : Int)))
      · intro ht
        exact wpC_absurd (by have : i < L.length := (by simpa using ht); omega)
      · intro ht
        have hil : i = L.length := by have : ¬ i < L.length := (by simpa using ht); omega
        co_apply wpC_exit (TT Sh)
        co_then
        co_apply wpC_seq (TT Sh)
        co_reg (TT Sh)
        co_op rl hF (co_quiet (TT Sh))
        co_op rl hF (co_quiet (TT Sh))
        co_op rl hF (co_quiet (TT Sh))
        co_op rl hF (co_quiet (TT Sh))
        co_apply opsC_unwanted (TT Sh) rfl (by rfl)
        try walk_nrm
        co_apply opsC_unwanted (TT Sh) rfl (by rfl)
        try walk_nrm
        co_apply opsC_unwanted (TT Sh) rfl (by rfl)
        try walk_nrm
        co_op rl hF (co_quiet (TT Sh))
        co_op rl hF (co_quiet (TT Sh))
        co_apply opsC_nil (TT Sh)
        co_then
        co_apply wpC_ret (TT Sh)
        try co_then
        refine ⟨rfl, _, resultsC_tmp (by rfl) _, ?_, hF⟩
        have hal : L.all (fun S => S.length ≤ 20) = true := by
          rw [List.all_eq_true]
          intro S hS
          have := hall S (by rw [List.take_of_length_le (by omega)]; exact hS)
          simpa using this
        unfold fewB
        rw [hal, Bool.true_and]
        rw [decide_eq_false hb, Bool.false_and]
        rfl
  · by_cases hb : np ≤ 100
    · have hb1 : (decide ((np : Int) ≤ 100)) = true := by simp; omega
      co_apply Exists.intro
      intro w hF
      co_apply callsC_of_wpC Try.func8 (by rfl) rfl
      simp only [Try.ntmps8, List.size_toArray, List.length_cons, List.length_nil, Nat.reduceAdd, Nat.reduceSub, Array.replicate_succ, Array.replicate_zero, List.push_toArray, List.append_toArray, List.nil_append, List.cons_append]
      co_apply wpC_seq (TT Sh)
      co_reg (TT Sh)
      co_op rl hF (co_quiet (TT Sh))
      co_apply opsC_nil (TT Sh)
      co_then
      co_apply wpC_seq (TT Sh)
      co_apply wpC_seq (TT Sh)
      co_reg (TT Sh)
      co_op rl hF (co_quiet (TT Sh))
      co_op rl hF (co_quiet (TT Sh))
      co_op rl hF (co_quiet (TT Sh))
      co_apply opsC_nil (TT Sh)
      co_then
      co_apply wpC_block (TT Sh)
      co_apply wpC_loop (TT Sh) (fun a' w' => ∃ (T : Array Value) (i : Nat), a' = ⟨T, []⟩ ∧ T.size = 25 ∧ T[0]? = some (.slice a np pcap) ∧ T[1]? = some (.slice (some ⟨p, o, none⟩) L.length lcap) ∧ T[4]? = some (.bool false) ∧ T[7]? = some (.slice (some ⟨p, o, none⟩) L.length lcap) ∧ T[8]? = some (.int .i64 L.length) ∧ T[9]? = some (.int .i64 i) ∧ i ≤ L.length ∧ (∀ S ∈ L.take i, S.length ≤ 20) ∧ Ext Vn W w') (fun a' _ => L.length - slotN a' 9) _ (L.length)
      · exact ⟨_, 0, rfl, rfl, rfl, rfl, rfl, rfl, rfl, rfl, by omega, by simp, hF⟩
      · simp [slotN]
      clear hF w
      rintro a' w ⟨T, i, rfl, hT, h0, h1, h4, h7, h8, h9, hi, hall, hF⟩
      obtain ⟨v0, v1, v2, v3, v4, v5, v6, v7, v8, v9, v10, v11, v12, v13, v14, v15, v16, v17, v18, v19, v20, v21, v22, v23, v24, rfl⟩ := arr25 T hT
      simp only [List.getElem?_toArray, List.getElem?_cons_zero, List.getElem?_cons_succ, Option.some.injEq] at h0 h1 h4 h7 h8 h9
      subst h0
      subst h1
      subst h4
      subst h7
      subst h8
      subst h9
      co_apply wpC_seq (TT Sh)
      co_reg (TT Sh)
      co_op rl hF (co_quiet (TT Sh))
      co_apply opsC_nil (TT Sh)
      co_then
      co_apply wpC_seq (TT Sh)
      co_split (TT Sh) (decide ((i : Int) < (L.length : Int)))
      · intro ht
        have hil : i < L.length := by simpa using ht
        co_apply wpC_skip (TT Sh)
        co_then
        co_apply wpC_seq (TT Sh)
        co_apply wpC_block (TT Sh)
        co_apply wpC_seq (TT Sh)
        obtain ⟨S, hSi⟩ : ∃ S, L[i]? = some S := ⟨_, List.getElem?_eq_getElem hil⟩
        obtain ⟨u, hu, ⟨aS, capS, rfl, _⟩⟩ := hcs i S hSi
        co_reg (TT Sh)
        co_opw rl hF (skip) (co_still (TT Sh))
        co_opw rl hF (have hc := cell_ext hF (hu)) (refine rd_old hS hF (hu) (by rfl) (fun e he => ?_); have hm := mem_listed he; simp [go_sem, *] at hm; exact hm)
        clear hc
        co_op rl hF (co_quiet (TT Sh))
        co_apply opsC_nil (TT Sh)
        co_then
        co_apply wpC_seq (TT Sh)
        co_reg (TT Sh)
        co_op rl hF (co_quiet (TT Sh))
        co_op rl hF (co_quiet (TT Sh))
        co_op rl hF (co_quiet (TT Sh))
        co_apply opsC_nil (TT Sh)
        co_then
        co_split (TT Sh) (decide ((20 : Int) < (S.length : Int)))
        · intro ht
          co_apply wpC_seq (TT Sh)
          co_reg (TT Sh)
          co_op rl hF (co_quiet (TT Sh))
          co_apply opsC_nil (TT Sh)
          co_then
          co_apply wpC_ret (TT Sh)
          try co_then
          refine ⟨rfl, _, resultsC_tmp (by rfl) _, ?_, hF⟩
          have h20 : 20 < S.length := by have := of_decide_eq_true ht; omega
          have : fewB np L = false := by
            unfold fewB
            rw [Bool.and_eq_false_iff]
            left
            rw [List.all_eq_false]
            exact ⟨S, List.mem_of_getElem? hSi, by simp; omega⟩
          simp [this]
        · intro ht
          co_apply wpC_skip (TT Sh)
          co_then
          co_reg (TT Sh)
          co_op rl hF (co_quiet (TT Sh))
          co_op rl hF (co_quiet (TT Sh))
          co_apply opsC_nil (TT Sh)
          co_then
          have h20 : S.length ≤ 20 := by have := of_decide_eq_false ht; omega
          have hwr : IntKind.i64.wrap ((i : Int) + 1) = ((i + 1 : Nat) : Int) := by rw [IntKind.wrap_i64]; omega
          refine ⟨⟨_, i + 1, rfl, rfl, rfl, rfl, rfl, rfl, rfl, by simp [hwr], by omega, fun S' hS' => ?_, hF⟩, ?_⟩
          · rw [List.take_add_one, hSi] at hS'
            rcases List.mem_append.1 hS' with h | h
            · exact hall S' h
            · simp at h; rw [h]; exact h20
          · simp [slotN, hwr]; omega
      · intro ht
        have hil : i = L.length := by have : ¬ i < L.length := (by simpa using ht); omega
        co_apply wpC_exit (TT Sh)
        co_then
        co_apply wpC_seq (TT Sh)
        co_reg (TT Sh)
        co_op rl hF (co_quiet (TT Sh))
        co_op rl hF (co_quiet (TT Sh))
        co_op rl hF (co_quiet (TT Sh))
        co_op rl hF (co_quiet (TT Sh))
        co_op rl hF (co_quiet (TT Sh))
        co_op rl hF (co_quiet (TT Sh))
        co_op rl hF (co_quiet (TT Sh))
        co_op rl hF (co_quiet (TT Sh))
        co_op rl hF (co_quiet (TT Sh))
        co_apply opsC_nil (TT Sh)
        co_then
        co_apply wpC_ret (TT Sh)
        try co_then
        refine ⟨rfl, _, resultsC_tmp (by rfl) _, ?_, hF⟩
        have hal : L.all (fun S => S.length ≤ 20) = true := by
          rw [List.all_eq_true]
          intro S hS
          have := hall S (by rw [List.take_of_length_le (by omega)]; exact hS)
          simpa using this
        unfold fewB
        rw [hal, Bool.true_and]
        rw [decide_eq_true hb, Bool.true_and]
        exact congrArg Value.bool (decide_eq_decide.2 (by omega))
    · have hb1 : (decide ((np : Int) ≤ 100)) = false := by simp; omega
      co_apply Exists.intro
      intro w hF
      co_apply callsC_of_wpC Try.func8 (by rfl) rfl
      simp only [Try.ntmps8, List.size_toArray, List.length_cons, List.length_nil, Nat.reduceAdd, Nat.reduceSub, Array.replicate_succ, Array.replicate_zero, List.push_toArray, List.append_toArray, List.nil_append, List.cons_append]
      co_apply wpC_seq (TT Sh)
      co_reg (TT Sh)
      co_op rl hF (co_quiet (TT Sh))
      co_apply opsC_nil (TT Sh)
      co_then
      co_apply wpC_seq (TT Sh)
      co_apply wpC_seq (TT Sh)
      co_reg (TT Sh)
      co_op rl hF (co_quiet (TT Sh))
      co_op rl hF (co_quiet (TT Sh))
      co_op rl hF (co_quiet (TT Sh))
      co_apply opsC_nil (TT Sh)
      co_then
      co_apply wpC_block (TT Sh)
      co_apply wpC_loop (TT Sh) (fun a' w' => ∃ (T : Array Value) (i : Nat), a' = ⟨T, []⟩ ∧ T.size = 25 ∧ T[0]? = some (.slice a np pcap) ∧ T[1]? = some (.slice (some ⟨p, o, none⟩) L.length lcap) ∧ T[4]? = some (.bool false) ∧ T[7]? = some (.slice (some ⟨p, o, none⟩) L.length lcap) ∧ T[8]? = some (.int .i64 L.length) ∧ T[9]? = some (.int .i64 i) ∧ i ≤ L.length ∧ (∀ S ∈ L.take i, S.length ≤ 20) ∧ Ext Vn W w') (fun a' _ => L.length - slotN a' 9) _ (L.length)
      · exact ⟨_, 0, rfl, rfl, rfl, rfl, rfl, rfl, rfl, rfl, by omega, by simp, hF⟩
      · simp [slotN]
      clear hF w
      rintro a' w ⟨T, i, rfl, hT, h0, h1, h4, h7, h8, h9, hi, hall, hF⟩
      obtain ⟨v0, v1, v2, v3, v4, v5, v6, v7, v8, v9, v10, v11, v12, v13, v14, v15, v16, v17, v18, v19, v20, v21, v22, v23, v24, rfl⟩ := arr25 T hT
      simp only [List.getElem?_toArray, List.getElem?_cons_zero, List.getElem?_cons_succ, Option.some.injEq] at h0 h1 h4 h7 h8 h9
      subst h0
      subst h1
      subst h4
      subst h7
      subst h8
      subst h9
      co_apply wpC_seq (TT Sh)
      co_reg (TT Sh)
      co_op rl hF (co_quiet (TT Sh))
      co_apply opsC_nil (TT Sh)
      co_then
      co_apply wpC_seq (TT Sh)
      co_split (TT Sh) (decide ((i : Int) < (L.length : Int)))
      · intro ht
        have hil : i < L.length := by simpa using ht
        co_apply wpC_skip (TT Sh)
        co_then
        co_apply wpC_seq (TT Sh)
        co_apply wpC_block (TT Sh)
        co_apply wpC_seq (TT Sh)
        obtain ⟨S, hSi⟩ : ∃ S, L[i]? = some S := ⟨_, List.getElem?_eq_getElem hil⟩
        obtain ⟨u, hu, ⟨aS, capS, rfl, _⟩⟩ := hcs i S hSi
        co_reg (TT Sh)
        co_opw rl hF (skip) (co_still (TT Sh))
        co_opw rl hF (have hc := cell_ext hF (hu)) (refine rd_old hS hF (hu) (by rfl) (fun e he => ?_); have hm := mem_listed he; simp [go_sem, *] at hm; exact hm)
        clear hc
        co_op rl hF (co_quiet (TT Sh))
        co_apply opsC_nil (TT Sh)
        co_then
        co_apply wpC_seq (TT Sh)
        co_reg (TT Sh)
        co_op rl hF (co_quiet (TT Sh))
        co_op rl hF (co_quiet (TT Sh))
        co_op rl hF (co_quiet (TT Sh))
        co_apply opsC_nil (TT Sh)
        co_then
        co_split (TT Sh) (decide ((20 : Int) < (S.length : Int)))
        · intro ht
          co_apply wpC_seq (TT Sh)
          co_reg (TT Sh)
          co_op rl hF (co_quiet (TT Sh))
          co_apply opsC_nil (TT Sh)
          co_then
          co_apply wpC_ret (TT Sh)
          try co_then
          refine ⟨rfl, _, resultsC_tmp (by rfl) _, ?_, hF⟩
          have h20 : 20 < S.length := by have := of_decide_eq_true ht; omega
          have : fewB np L = false := by
            unfold fewB
            rw [Bool.and_eq_false_iff]
            left
            rw [List.all_eq_false]
            exact ⟨S, List.mem_of_getElem? hSi, by simp; omega⟩
          simp [this]
        · intro ht
          co_apply wpC_skip (TT Sh)
          co_then
          co_reg (TT Sh)
          co_op rl hF (co_quiet (TT Sh))
          co_op rl hF (co_quiet (TT Sh))
          co_apply opsC_nil (TT Sh)
          co_then
          have h20 : S.length ≤ 20 := by have := of_decide_eq_false ht; omega
          have hwr : IntKind.i64.wrap ((i : Int) + 1) = ((i + 1 : Nat) : Int) := by rw [IntKind.wrap_i64]; omega
          refine ⟨⟨_, i + 1, rfl, rfl, rfl, rfl, rfl, rfl, rfl, by simp [hwr], by omega, fun S' hS' => ?_, hF⟩, ?_⟩
          · rw [List.take_add_one, hSi] at hS'
            rcases List.mem_append.1 hS' with h | h
            · exact hall S' h
            · simp at h; rw [h]; exact h20
          · simp [slotN, hwr]; omega
      · intro ht
        have hil : i = L.length := by have : ¬ i < L.length := (by simpa using ht); omega
        co_apply wpC_exit (TT Sh)
        co_then
        co_apply wpC_seq (TT Sh)
        co_reg (TT Sh)
        co_op rl hF (co_quiet (TT Sh))
        co_op rl hF (co_quiet (TT Sh))
        co_op rl hF (co_quiet (TT Sh))
        co_op rl hF (co_quiet (TT Sh))
        co_apply opsC_unwanted (TT Sh) rfl (by rfl)
        try walk_nrm
        co_apply opsC_unwanted (TT Sh) rfl (by rfl)
        try walk_nrm
        co_apply opsC_unwanted (TT Sh) rfl (by rfl)
        try walk_nrm
        co_op rl hF (co_quiet (TT Sh))
        co_op rl hF (co_quiet (TT Sh))
        co_apply opsC_nil (TT Sh)
        co_then
        co_apply wpC_ret (TT Sh)
        try co_then
        refine ⟨rfl, _, resultsC_tmp (by rfl) _, ?_, hF⟩
        have hal : L.all (fun S => S.length ≤ 20) = true := by
          rw [List.all_eq_true]
          intro S hS
          have := hall S (by rw [List.take_of_length_le (by omega)]; exact hS)
          simpa using this
        unfold fewB
        rw [hal, Bool.true_and]
        rw [decide_eq_false hb, Bool.false_and]
        rfl

end
end Go.Proofs.Ytggfcdhkgldbfaa
