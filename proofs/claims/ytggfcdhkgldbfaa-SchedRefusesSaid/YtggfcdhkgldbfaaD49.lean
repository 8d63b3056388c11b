/-
  PARTS of a claim, merged by segs.py: CwRf7.
-/
import Derived.Test.YtggfcdhkgldbfaaD48
import Derived.Test.YtggfcdhkgldbfaaD43
import Derived.Test.YtggfcdhkgldbfaaD44
namespace Go.Proofs.Ytggfcdhkgldbfaa
set_option linter.unusedSimpArgs false
set_option linter.unusedVariables false

/-! ### CwRf7 -/
section
set_option linter.unusedSimpArgs false
open Go Go.Conc Go.RowKit Go.ConcR.Gen Cw

theorem enter_lawF (v m x : Value) : Frame.enter Try.prog 6 #[v, m, x] .normal = fRf #[v, m, x, undef, undef, undef, undef, undef, undef, undef, undef, undef, undef, undef, undef, undef, undef, undef, undef, undef, undef, undef, undef, undef, undef, undef, undef, undef, undef, undef, undef, undef, undef, undef, undef, undef, undef, undef, undef, undef, undef, undef, undef, undef, undef, undef, undef, undef, undef, undef, undef, undef, undef, undef, undef, undef, undef, undef, undef, undef, undef, undef, undef, undef, undef, undef, undef, undef, undef, undef, undef, undef, undef, undef, undef, undef, undef, undef, undef, undef, undef, undef, undef, undef, undef, undef, undef, undef, undef, undef, undef, undef, undef, undef, undef, undef, undef, undef, undef, undef, undef, undef, undef, undef, undef] [.code bodyF] := by
  rw [enter_at (c := bodyF) _ Try.func6 (by simp [bodyF, Try.f6])]
  simp only [Try.ntmps6, List.size_toArray, List.length_cons, List.length_nil, Nat.reduceAdd, Nat.reduceSub, Nat.zero_add, Nat.sub_zero, Array.replicate_succ, Array.replicate_zero, List.push_toArray, List.append_toArray, List.nil_append, List.cons_append]
theorem fin_lawF {Sh : Loc → Prop} {T : Array Value} {k : List Item} {W w : World} (h4 : T[6]? = some (.bool true)) (h : Leaves W w) : AtFin Try.prog (Cx0 Sh) (fun r w' => r = .bool true ∧ Leaves W w') (G { fRf T k with mode := .returning } []) w := by
  refine ⟨rfl, fun d => ⟨.bool true, #[], ?_, by simp, rfl, ⟨h.keep.1, h.keep.2⟩, h.os, h.output⟩⟩
  simp [G, stepG, unwind, doReturn, results, Frame.at, base, Try.func6, Try.f6, seen, GStep.after, h4]
/-- The tasks, with the hole. -/
def tksF (sb n mi : Nat) : List Value := if mi < n then (List.replicate n (adV sb)).set mi .nilIface else List.replicate n (adV sb)
theorem tksF_len {sb n mi : Nat} : (tksF sb n mi).length = n := by
  unfold tksF; split <;> simp
theorem tksF_if {sb n mi : Nat} : ∀ v ∈ tksF sb n mi, ifNil v := fun v hv => by
  have hr : ∀ v ∈ List.replicate n (adV sb), ifNil v := fun v hv => by rw [(List.mem_replicate.1 hv).2]; exact .inr ⟨_, _, rfl⟩
  unfold tksF at hv
  split at hv
  · rcases List.mem_or_eq_of_mem_set hv with h | h
    · exact hr v h
    · exact .inl h
  · exact hr v hv
section
variable [R0 : Ref] {W : World} {ap : Option Addr} {pc mi xe n sb : Nat} {ips : List Int}
/-- To the call: the hole is made. -/
theorem partF1 {W₁ : World} {m : Machine} {T : Trace} {sP : Value} (hmi : mi < 256) (hxe : xe < 256) (hn1 : n ≤ xe % 70) (hn2 : xe % 70 ≤ n)
    (H : Held Try.prog (Cx0 fun _ => False) Vn 0 0 1 Gone (fun g w => ∃ T', (T'.size = 105 ∧ T'[0]? = some sP ∧ T'[1]? = some (.int .u8 mi) ∧ T'[2]? = some (.int .u8 xe) ∧ T'[7]? = some (pb sb)) ∧ g = G (fRf T' (.code cdF2 :: [])) [] ∧ Ext Vn W₁ w) m T) :
    Lands Try.prog m T (Held Try.prog (Cx0 fun _ => False) Vn 0 0 1 Gone (fun g w => ∃ au uc T', (T'.size = 105 ∧ T'[0]? = some sP ∧ T'[7]? = some (pb sb) ∧ T'[8]? = some (.slice au n uc) ∧ T'[9]? = some (.bool (decide (mi < n)))) ∧ g = G (fRf T' (.code cdF6 :: [])) [] ∧ (Ext Vn W₁ w ∧ VRow w au (tksF sb n mi)))) := by
  have hS0 : ∀ w, ShOk (fun _ => False) w := fun w a h => h.elim
  have trs : ∀ {A w w'}, Ext Vn A w → Ext Vn w w' → Ext Vn A w' := fun h r => h.trans r
  obtain ⟨T1, H⟩ := H.ex
  obtain ⟨⟨a1, a2, a3, a4, a5⟩, H⟩ := H.and
  obtain ⟨n2, p2⟩ := c_f2 (main := (0 == 0)) (hS0 W₁) (sP := sP) (sM := .int .u8 mi) (sX := .int .u8 xe) (s7 := pb sb)
  refine (H.walk gone_stb fun g w hK => ⟨n2 + 1, by
    obtain ⟨rfl, hK⟩ := hK
    rw [cdF2_eq]
    exact goes_partF (fun a w w' h r => by
      obtain ⟨T, h1, h2, h3, h4, h5, h6, h7, h8⟩ := h
      exact ⟨T, h1, h2, h3, h4, h5, h6, h7, trs h8 r⟩) (fun w' hr => p2 _ T1 w' a1 a2 a3 a4 a5 (trs hK hr))⟩).bind fun mA TA HA => ?_
  have HA' := HA.mono (K' := fun g w => ∃ T', (T'.size = 105 ∧ T'[0]? = some sP ∧ T'[1]? = some (.int .u8 mi) ∧ T'[2]? = some (.int .u8 xe) ∧ T'[7]? = some (pb sb) ∧ T'[8]? = some (.slice none 0 0)) ∧ g = G (fRf T' (.code cdF3 :: [])) [] ∧ Ext Vn W₁ w) (fun g w h => by
    obtain ⟨a', h0, T, rfl, h2, h3, h4, h5, h6, h7, h8⟩ := h
    exact ⟨T, ⟨h2, h3, h4, h5, h6, h7⟩, h0, h8⟩) (fun _ _ h => h)
  obtain ⟨T2, H⟩ := HA'.ex
  obtain ⟨⟨b1, b2, b3, b4, b5, b6⟩, H⟩ := H.and
  obtain ⟨n3, p3⟩ := c_f3 (main := (0 == 0)) (hS0 W₁) (sP := sP) (sM := .int .u8 mi) (sb := sb) (xe := xe) (n := n) hn1 hn2 hxe
  refine (H.walk gone_stb fun g w hK => ⟨n3 + 1, by
    obtain ⟨rfl, hK⟩ := hK
    rw [cdF3_eq]
    exact goes_partF (fun a w w' h r => by
      obtain ⟨T, u, h1, h2, h3, h4, h5, h6, h7, h8⟩ := h
      exact ⟨T, u, h1, h2, h3, h4, h5, h6, trs h7 r, ownsRow_ext h8 r fun _ _ => id⟩) (fun w' hr => p3 _ T2 w' b1 b2 b3 b4 b5 b6 (trs hK hr))⟩).bind fun mB TB HB => ?_
  have fin : ∀ (b : Bool) (xs : List Value) m T, decide (mi < n) = b → xs = tksF sb n mi → Held Try.prog (Cx0 fun _ => False) Vn 0 0 1 Gone (fun g w => ∃ au uc T', (T'.size = 105 ∧ T'[0]? = some sP ∧ T'[7]? = some (pb sb) ∧ T'[8]? = some (.slice au n uc) ∧ T'[9]? = some (.bool b)) ∧ g = G (fRf T' (.code cdF6 :: [])) [] ∧ (Ext Vn W₁ w ∧ VRow w au xs)) m T →
      Lands Try.prog m T (Held Try.prog (Cx0 fun _ => False) Vn 0 0 1 Gone (fun g w => ∃ au uc T', (T'.size = 105 ∧ T'[0]? = some sP ∧ T'[7]? = some (pb sb) ∧ T'[8]? = some (.slice au n uc) ∧ T'[9]? = some (.bool (decide (mi < n)))) ∧ g = G (fRf T' (.code cdF6 :: [])) [] ∧ (Ext Vn W₁ w ∧ VRow w au (tksF sb n mi)))) := fun b xs m T hb hxs H => by
    subst hb hxs
    exact .done H
  have fn : ∀ {g w}, (∃ a', g = G ((base 6).at a' (.code cdF4 :: [])) [] ∧ ∃ T u, a' = ⟨T, []⟩ ∧ T.size = 105 ∧ T[0]? = some sP ∧ T[1]? = some (.int .u8 mi) ∧ T[7]? = some (pb sb) ∧ T[8]? = some u ∧ Ext Vn W₁ w ∧ w.ownsRow W₁.heap.size 50 1 u n (List.replicate n (adV sb))) →
      ∃ au uc T', (T'.size = 105 ∧ T'[0]? = some sP ∧ T'[1]? = some (.int .u8 mi) ∧ T'[7]? = some (pb sb) ∧ T'[8]? = some (.slice au n uc)) ∧ g = G (fRf T' (.code cdF4 :: [])) [] ∧ (Ext Vn W₁ w ∧ VRow w au (List.replicate n (adV sb))) := fun h => by
    obtain ⟨a', h0, T, u, rfl, h2, h3, h4, h5, h6, h7, h8⟩ := h
    obtain ⟨a, c, rfl, hv, _⟩ := own_vrow h8
    exact ⟨a, c, T, ⟨h2, h3, h4, h5, by rw [h6]; simp⟩, h0, h7, hv⟩
  by_cases hhole : mi < n
  · -- the hole
    have HB' := HB.mono (K' := fun g w => ∃ gb uc T', (T'.size = 105 ∧ T'[0]? = some sP ∧ T'[1]? = some (.int .u8 mi) ∧ T'[7]? = some (pb sb) ∧ T'[8]? = some (.slice (some ⟨gb, 0, none⟩) n uc) ∧ n ≤ uc) ∧ g = G (fRf T' (.code cdF4 :: [])) [] ∧ RT W₁ gb (List.replicate n (adV sb)) w) (fun g w h => by
      obtain ⟨a', h0, T, u, rfl, h2, h3, h4, h5, h6, h7, h8⟩ := h
      obtain ⟨gb, cap, rfl, hc, hr⟩ := rt_of h7 h8 (by omega)
      exact ⟨gb, cap, T, ⟨h2, h3, h4, h5, h6, hc⟩, h0, hr⟩) (fun _ _ h => h)
    obtain ⟨gb, H⟩ := HB'.ex
    obtain ⟨uc, H⟩ := H.ex
    obtain ⟨T3, H⟩ := H.ex
    obtain ⟨⟨c1, c2, c3, c4, c5, c6⟩, H⟩ := H.and
    obtain ⟨W₂, hrt, H⟩ := H.anchor
    obtain ⟨n4, p4⟩ := c_f4 (main := (0 == 0)) (hS0 W₂) (sP := sP) (s7 := pb sb) (au := some ⟨gb, 0, none⟩) (mi := mi) (n := n) (uc := uc) hmi
    refine (H.walk gone_stb fun g w hK => ⟨n4 + 1, by
      obtain ⟨rfl, hK⟩ := hK
      rw [cdF4_eq]
      exact goes_partF (fun a w w' h r => by
        obtain ⟨T, h1, h2, h3, h4, h5, h6, h7, h8⟩ := h
        exact ⟨T, h1, h2, h3, h4, h5, h6, h7, trs h8 r⟩) (fun w' hr => p4 _ T3 w' c1 c2 c3 c4 c5 (trs hK hr))⟩).bind fun mC TC HC => ?_
    have HC' := HC.mono (K' := fun g w => ∃ T', (T'.size = 105 ∧ T'[0]? = some sP ∧ T'[1]? = some (.int .u8 mi) ∧ T'[7]? = some (pb sb) ∧ T'[8]? = some (.slice (some ⟨gb, 0, none⟩) n uc) ∧ T'[9]? = some (.bool true)) ∧ g = G (fRf T' (.code cdF5 :: [])) [] ∧ RT W₁ gb (List.replicate n (adV sb)) w) (fun g w h => by
      obtain ⟨a', h0, T, rfl, h2, h3, h4, h5, h6, h7, h8⟩ := h
      exact ⟨T, ⟨h2, h3, h4, h5, h6, by rw [h7, decide_eq_true hhole]⟩, h0, hrt.rl h8⟩) (fun _ _ h => h)
    obtain ⟨T4, H⟩ := HC'.ex
    obtain ⟨⟨d1, d2, d3, d4, d5, d6⟩, H⟩ := H.and
    obtain ⟨n5, p5⟩ := c_f5h (main := (0 == 0)) (hS0 W₁) (sP := sP) (s7 := pb sb) (gb := gb) (mi := mi) (n := n) (cap := uc) (vs := List.replicate n (adV sb)) hhole c6 (by simp)
    refine (H.walk gone_stb fun g w hK => ⟨n5 + 1, by
      obtain ⟨rfl, hK⟩ := hK
      rw [cdF5_eq]
      exact goes_partF (fun a w w' h r => by
        obtain ⟨T, h1, h2, h3, h4, h5, h6, h7⟩ := h
        exact ⟨T, h1, h2, h3, h4, h5, h6, h7.rl r⟩) (fun w' hr => p5 _ T4 w' d1 d2 d3 d4 d5 d6 (hK.rl hr))⟩).bind fun mD TD HD => ?_
    refine fin true ((List.replicate n (adV sb)).set mi .nilIface) _ _ (decide_eq_true hhole) (by unfold tksF; rw [if_pos hhole]) (HD.mono (fun g w h => ?_) (fun _ _ h => h))
    obtain ⟨a', h0, T, rfl, h2, h3, h4, h5, h6, h7⟩ := h
    exact ⟨_, uc, T, ⟨h2, h3, h4, h5, h6⟩, h0, h7.ext, h7.vrow⟩
  · have HB' := HB.mono (K' := fun g w => ∃ au uc T', (T'.size = 105 ∧ T'[0]? = some sP ∧ T'[1]? = some (.int .u8 mi) ∧ T'[7]? = some (pb sb) ∧ T'[8]? = some (.slice au n uc)) ∧ g = G (fRf T' (.code cdF4 :: [])) [] ∧ (Ext Vn W₁ w ∧ VRow w au (List.replicate n (adV sb)))) (fun g w h => fn h) (fun _ _ h => h)
    obtain ⟨au, H⟩ := HB'.ex
    obtain ⟨uc, H⟩ := H.ex
    obtain ⟨T3, H⟩ := H.ex
    obtain ⟨⟨c1, c2, c3, c4, c5⟩, H⟩ := H.and
    obtain ⟨W₂, ⟨e2, hv2⟩, H⟩ := H.anchor
    obtain ⟨n4, p4⟩ := c_f4 (main := (0 == 0)) (hS0 W₂) (sP := sP) (s7 := pb sb) (au := au) (mi := mi) (n := n) (uc := uc) hmi
    refine (H.walk gone_stb fun g w hK => ⟨n4 + 1, by
      obtain ⟨rfl, hK⟩ := hK
      rw [cdF4_eq]
      exact goes_partF (fun a w w' h r => by
        obtain ⟨T, h1, h2, h3, h4, h5, h6, h7, h8⟩ := h
        exact ⟨T, h1, h2, h3, h4, h5, h6, h7, trs h8 r⟩) (fun w' hr => p4 _ T3 w' c1 c2 c3 c4 c5 (trs hK hr))⟩).bind fun mC TC HC => ?_
    have HC' := HC.mono (K' := fun g w => ∃ T', (T'.size = 105 ∧ T'[0]? = some sP ∧ T'[7]? = some (pb sb) ∧ T'[8]? = some (.slice au n uc) ∧ T'[9]? = some (.bool false)) ∧ g = G (fRf T' (.code cdF5 :: [])) [] ∧ Ext Vn W₂ w) (fun g w h => by
      obtain ⟨a', h0, T, rfl, h2, h3, h4, h5, h6, h7, h8⟩ := h
      exact ⟨T, ⟨h2, h3, h5, h6, by rw [h7, decide_eq_false hhole]⟩, h0, h8⟩) (fun _ _ h => h)
    obtain ⟨T4, H⟩ := HC'.ex
    obtain ⟨⟨d1, d2, d4, d5, d6⟩, H⟩ := H.and
    obtain ⟨n5, p5⟩ := c_f5n (main := (0 == 0)) (hS0 W₂) (sP := sP) (s7 := pb sb) (s8 := .slice au n uc)
    refine (H.walk gone_stb fun g w hK => ⟨n5 + 1, by
      obtain ⟨rfl, hK⟩ := hK
      rw [cdF5_eq]
      exact goes_partF (fun a w w' h r => by
        obtain ⟨T, h1, h2, h3, h4, h5, h6, h7⟩ := h
        exact ⟨T, h1, h2, h3, h4, h5, h6, trs h7 r⟩) (fun w' hr => p5 _ T4 w' d1 d2 d4 d5 d6 (trs hK hr))⟩).bind fun mD TD HD => ?_
    refine fin false (List.replicate n (adV sb)) _ _ (decide_eq_false hhole) (by unfold tksF; rw [if_neg hhole]) (HD.mono (fun g w h => ?_) (fun _ _ h => h))
    obtain ⟨a', h0, T, rfl, h2, h3, h4, h5, h6, h7⟩ := h
    exact ⟨_, uc, T, ⟨h2, h3, h4, h5, h6⟩, h0, e2.trans h7, vrow_ext hv2 h7⟩
/-- What is wanted ahead of the picks. -/
def wantF (n np mi : Nat) : Nat := if 64 < n ∨ 4096 < np then 12 else if mi < n then 1 else 0
/-- To the call: what is wanted. -/
theorem partF2 {W₂ : World} {au : Option Addr} {uc : Nat} {m : Machine} {T : Trace} (hp : VRow W₂ ap (intv ips)) (hpl : ips.length ≤ 5000) (hn : n ≤ 100)
    (H : Held Try.prog (Cx0 fun _ => False) Vn 0 0 1 Gone (fun g w => ∃ T', (T'.size = 105 ∧ T'[0]? = some (.slice ap ips.length pc) ∧ T'[7]? = some (pb sb) ∧ T'[8]? = some (.slice au n uc) ∧ T'[9]? = some (.bool (decide (mi < n)))) ∧ g = G (fRf T' (.code cdF6 :: [])) [] ∧ Ext Vn W₂ w) m T) :
    Lands Try.prog m T (Held Try.prog (Cx0 fun _ => False) Vn 0 0 1 Gone (fun g w => ∃ T', (T'.size = 105 ∧ T'[7]? = some (pb sb) ∧ T'[8]? = some (.slice au n uc) ∧ T'[10]? = some (.int .i64 (wfold n (wantF n ips.length mi) ips : Nat))) ∧ g = G (fRun (entryT (.slice ap ips.length pc) (.slice au n uc)) [.code bodyM]) (fRf T' (.inRegion opsFc (2 :: [3, 4, 5, 6, 7]) :: .code cdF10 :: []) :: []) ∧ Ext Vn W₂ w)) := by
  have hS0 : ∀ w, ShOk (fun _ => False) w := fun w a h => h.elim
  have trs : ∀ {A w w'}, Ext Vn A w → Ext Vn w w' → Ext Vn A w' := fun h r => h.trans r
  obtain ⟨T1, H⟩ := H.ex
  obtain ⟨⟨a1, a2, a3, a4, a5⟩, H⟩ := H.and
  obtain ⟨n6, p6⟩ := c_f6 (main := (0 == 0)) (hS0 W₂) (sP := .slice ap ips.length pc) (s7 := pb sb) (s8 := .slice au n uc) (s9 := .bool (decide (mi < n)))
  refine (H.walk gone_stb fun g w hK => ⟨n6 + 1, by
    obtain ⟨rfl, hK⟩ := hK
    rw [cdF6_eq]
    exact goes_partF (fun a w w' h r => by
      obtain ⟨T, h1, h2, h3, h4, h5, h6, h7, h8⟩ := h
      exact ⟨T, h1, h2, h3, h4, h5, h6, h7, trs h8 r⟩) (fun w' hr => p6 _ T1 w' a1 a2 a3 a4 a5 (trs hK hr))⟩).bind fun mA TA HA => ?_
  have HA' := HA.mono (K' := fun g w => ∃ T', (T'.size = 105 ∧ T'[0]? = some (.slice ap ips.length pc) ∧ T'[7]? = some (pb sb) ∧ T'[8]? = some (.slice au n uc) ∧ T'[9]? = some (.bool (decide (mi < n))) ∧ T'[10]? = some (.int .i64 0)) ∧ g = G (fRf T' (.code cdF7 :: [])) [] ∧ Ext Vn W₂ w) (fun g w h => by
    obtain ⟨a', h0, T, rfl, h2, h3, h4, h5, h6, h7, h8⟩ := h
    exact ⟨T, ⟨h2, h3, h4, h5, h6, h7⟩, h0, h8⟩) (fun _ _ h => h)
  obtain ⟨T2, H⟩ := HA'.ex
  obtain ⟨⟨b1, b2, b3, b4, b5, b6⟩, H⟩ := H.and
  -- the switch
  have sw : ∃ k, ∀ (Qx : Exit → Act → World → Prop) (w : World), Ext Vn W₂ w →
      (lf cdF7).wpC Try.prog (0 == 0) (Ext Vn) (HDq (Cx0 fun _ => False)) 6 k (Exit.then (fun a' w' => ∃ T, a' = ⟨T, []⟩ ∧ T.size = 105 ∧ T[0]? = some (.slice ap ips.length pc) ∧ T[7]? = some (pb sb) ∧ T[8]? = some (.slice au n uc) ∧ T[10]? = some (.int .i64 (wantF n ips.length mi : Nat)) ∧ Ext Vn W₂ w') Qx) ⟨T2, []⟩ w := by
    by_cases h64 : 64 < n
    · obtain ⟨k, pk⟩ := c_f7a (main := (0 == 0)) (hS0 W₂) (s7 := pb sb) (ap := ap) (au := au) (n := n) (np := ips.length) (pc := pc) (uc := uc) (b9 := decide (mi < n)) h64
      rw [show wantF n ips.length mi = 12 by unfold wantF; rw [if_pos (.inl h64)]]
      exact ⟨k, fun Qx w hw => pk Qx T2 w b1 b2 b3 b4 b5 b6 hw⟩
    · by_cases h40 : 4096 < ips.length
      · obtain ⟨k, pk⟩ := c_f7b (main := (0 == 0)) (hS0 W₂) (s7 := pb sb) (ap := ap) (au := au) (n := n) (np := ips.length) (pc := pc) (uc := uc) (b9 := decide (mi < n)) (by omega) h40
        rw [show wantF n ips.length mi = 12 by unfold wantF; rw [if_pos (.inr h40)]]
        exact ⟨k, fun Qx w hw => pk Qx T2 w b1 b2 b3 b4 b5 b6 hw⟩
      · have hno : ¬ (64 < n ∨ 4096 < ips.length) := by omega
        by_cases hh : mi < n
        · obtain ⟨k, pk⟩ := c_f7c (main := (0 == 0)) (hS0 W₂) (s7 := pb sb) (ap := ap) (au := au) (n := n) (np := ips.length) (pc := pc) (uc := uc) (b9 := true) (by omega) (by omega)
          rw [show wantF n ips.length mi = 1 by unfold wantF; rw [if_neg hno, if_pos hh]]
          exact ⟨k, fun Qx w hw => pk Qx T2 w b1 b2 b3 b4 (by rw [b5, decide_eq_true hh]) b6 hw⟩
        · obtain ⟨k, pk⟩ := c_f7d (main := (0 == 0)) (hS0 W₂) (s7 := pb sb) (ap := ap) (au := au) (n := n) (np := ips.length) (pc := pc) (uc := uc) (b9 := true) (by omega) (by omega)
          rw [show wantF n ips.length mi = 0 by unfold wantF; rw [if_neg hno, if_neg hh]]
          exact ⟨k, fun Qx w hw => pk Qx T2 w b1 b2 b3 b4 (by rw [b5, decide_eq_false hh]) b6 hw⟩
  obtain ⟨n7, p7⟩ := sw
  refine (H.walk gone_stb fun g w hK => ⟨n7 + 1, by
    obtain ⟨rfl, hK⟩ := hK
    rw [cdF7_eq]
    exact goes_partF (fun a w w' h r => by
      obtain ⟨T, h1, h2, h3, h4, h5, h6, h7⟩ := h
      exact ⟨T, h1, h2, h3, h4, h5, h6, trs h7 r⟩) (fun w' hr => p7 _ w' (trs hK hr))⟩).bind fun mB TB HB => ?_
  have HB' := HB.mono (K' := fun g w => ∃ T', (T'.size = 105 ∧ T'[0]? = some (.slice ap ips.length pc) ∧ T'[7]? = some (pb sb) ∧ T'[8]? = some (.slice au n uc) ∧ T'[10]? = some (.int .i64 (wantF n ips.length mi : Nat))) ∧ g = G (fRf T' (.code cdF8 :: [])) [] ∧ Ext Vn W₂ w) (fun g w h => by
    obtain ⟨a', h0, T, rfl, h2, h3, h4, h5, h6, h7⟩ := h
    exact ⟨T, ⟨h2, h3, h4, h5, h6⟩, h0, h7⟩) (fun _ _ h => h)
  obtain ⟨T3, H⟩ := HB'.ex
  obtain ⟨⟨c1, c2, c3, c4, c5⟩, H⟩ := H.and
  obtain ⟨n8, p8⟩ := c_f8 (main := (0 == 0)) (hS0 W₂) (s7 := pb sb) (au := au) (n := n) (pc := pc) (uc := uc) (c0 := wantF n ips.length mi) hp hpl hn
  refine (H.walk gone_stb fun g w hK => ⟨n8 + 1, by
    obtain ⟨rfl, hK⟩ := hK
    rw [cdF8_eq]
    exact goes_partF (fun a w w' h r => by
      obtain ⟨T, c, h1, h2, h3, h4, h5, h6, h7, h8⟩ := h
      exact ⟨T, c, h1, h2, h3, h4, h5, h6, h7, trs h8 r⟩) (fun w' hr => p8 _ T3 w' c1 c2 c3 c4 c5 (trs hK hr))⟩).bind fun mC TC HC => ?_
  have HC' := HC.mono (K' := fun g w => ∃ T', (T'.size = 105 ∧ T'[0]? = some (.slice ap ips.length pc) ∧ T'[7]? = some (pb sb) ∧ T'[8]? = some (.slice au n uc) ∧ T'[10]? = some (.int .i64 (wfold n (wantF n ips.length mi) ips : Nat))) ∧ g = G (fRf T' (.code cdF9 :: [])) [] ∧ Ext Vn W₂ w) (fun g w h => by
    obtain ⟨a', h0, T, c, rfl, h2, h3, h4, h5, h6, h7, h8⟩ := h
    subst h7
    exact ⟨T, ⟨h2, h5, h3, h4, h6⟩, h0, h8⟩) (fun _ _ h => h)
  obtain ⟨T4, H⟩ := HC'.ex
  obtain ⟨⟨d1, d2, d3, d4, d5⟩, H⟩ := H.and
  refine (H.walk gone_stb fun g w hK => ⟨20, by
    obtain ⟨rfl, hK⟩ := hK
    exact f_in (mn := (0 == 0)) (Q := fun w => Ext Vn W₂ w) (fun _ _ h r => h.trans r) w hK T4 d1 d2 d3 d4 d5⟩).mono fun _ _ H => H
/-- Behind a call that refused. -/
theorem tailF1 {W₂ : World} {au : Option Addr} {c uc γ : Nat} {m : Machine} {T : Trace} (hγ : 1 ≤ γ) (hc : c ≠ 0) (hcell : W₂.heap[sb]? = some (.cells #[.int .i64 0] 3 (0, 0))) (hk : Keep W W₂) (T5 : Array Value) (a1 : T5.size = 105) (a2 : T5[7]? = some (pb sb)) (a3 : T5[8]? = some (.slice au n uc)) (a4 : T5[10]? = some (.int .i64 (c : Nat)))
    (H : Held Try.prog (Cx0 fun _ => False) Vn 0 0 γ Gone (fun g w => g = G ((base 6).at (Act.put ⟨T5, []⟩ ((opsFc[2]?).bind (·.dst)) (.tuple #[.slice none 0 0, .int .i64 (c : Nat)])) (.inRegion opsFc [3, 4, 5, 6, 7] :: .code cdF10 :: [])) [] ∧ Ext Vn W₂ w) m T) :
    Lands Try.prog m T (fun m' T' => ∃ Sh γ, Held Try.prog (Cx0 Sh) Vn 0 0 γ Gone (fun g w => ∃ T' k, T'[6]? = some (.bool true) ∧ g = G { fRf T' k with mode := .returning } [] ∧ Keep W w) m' T') := by
  have hS0 : ∀ w, ShOk (fun _ => False) w := fun w a h => h.elim
  refine (H.walk gone_stb fun g w hK => ⟨30, by
    obtain ⟨rfl, hK⟩ := hK
    exact f_mid (mn := (0 == 0)) (Q := fun w => Ext Vn W₂ w) (fun _ _ h r => h.trans r) w hK T5 a1 a2 a3 a4⟩).bind fun mA TA HA => ?_
  obtain ⟨T6, H⟩ := HA.ex
  obtain ⟨⟨b1, b2, b3, b4, b5, b6⟩, H⟩ := H.and
  refine (awake_call (Q := fun w => Ext Vn W₂ w) hγ (H.mono (fun g w h => ⟨h.1, hS0 w, h.2⟩) (fun _ _ h => h))).bind fun mB TB HB => ?_
  obtain ⟨Sh₅, HB⟩ := HB
  have HB' := HB.mono (K' := fun g w => g = G ((base 6).at (Act.put ⟨T6, []⟩ ((opsFd[0]?).bind (·.dst)) (.bool true)) (.inRegion opsFd [1, 2, 3, 4, 5, 6, 7, 8, 9, 10, 11, 12, 13, 14, 15, 16, 17, 18, 19, 20, 21, 22, 23, 24, 25, 26, 27, 28, 29, 30] :: .code .ret :: [])) [] ∧ (Keep W₂ w ∧ ShOk Sh₅ w)) (fun g w h => by
    obtain ⟨Wx, h1, h2, h3, h4⟩ := h
    exact ⟨h1, (keep_of h2).trans h3, h4⟩) (fun _ _ h => h)
  obtain ⟨W₃, ⟨kp3, sh3⟩, H⟩ := HB'.anchor
  have hcell3 : W₃.cell? ⟨sb, 0, none⟩ = some (.int .i64 0) := cell_kp kp3 (cell_of_box hcell)
  refine (H.walk gone_stb fun g w hK => ⟨60, by
    obtain ⟨rfl, hK⟩ := hK
    exact f_out2 (mn := (0 == 0)) sh3 hcell3 hc w hK T6 b1 b2 b3 b4 b5 b6⟩).mono fun m' T' H => ⟨_, _, H.mono (fun g w h => by
      obtain ⟨T', k, h1, h2, h3⟩ := h
      exact ⟨T', k, h1, h2, (hk.trans kp3).ext h3⟩) (fun _ _ h => h)⟩
end
set_option maxHeartbeats 4000000 in
theorem law_refuses (W : World) {ap : Option Addr} {pc mi xe : Nat} {ips : List Int} (hp : VRow W ap (intv ips)) (hmi : mi < 256) (hxe : xe < 256) :
    ∃ M last o w' t', runNT Try.prog (M + 1) (solo (G (Frame.enter Try.prog 6 #[.slice ap ips.length pc, .int .u8 mi, .int .u8 xe] .normal) []) W) #[] = (.ended o w', t') ∧ runN Try.prog M (solo (G (Frame.enter Try.prog 6 #[.slice ap ips.length pc, .int .u8 mi, .int .u8 xe] .normal) []) W) = .next last ∧
      step Try.prog last = .ended o w' ∧ Go.Conc.Good Try.prog (fun r w' => r = .bool true ∧ Leaves W w') last o w' t' := by
  letI : Ref := ⟨W⟩
  rw [enter_lawF]
  have H₀ := held_init Try.prog (G (fRf #[.slice ap ips.length pc, .int .u8 mi, .int .u8 xe, undef, undef, undef, undef, undef, undef, undef, undef, undef, undef, undef, undef, undef, undef, undef, undef, undef, undef, undef, undef, undef, undef, undef, undef, undef, undef, undef, undef, undef, undef, undef, undef, undef, undef, undef, undef, undef, undef, undef, undef, undef, undef, undef, undef, undef, undef, undef, undef, undef, undef, undef, undef, undef, undef, undef, undef, undef, undef, undef, undef, undef, undef, undef, undef, undef, undef, undef, undef, undef, undef, undef, undef, undef, undef, undef, undef, undef, undef, undef, undef, undef, undef, undef, undef, undef, undef, undef, undef, undef, undef, undef, undef, undef, undef, undef, undef, undef, undef, undef, undef, undef, undef] [.code bodyF]) [])
  change Held Try.prog (Cx0 fun _ => False) Vn 0 0 1 Gone (fun g w => _ ∧ Ext Vn W w) _ _ at H₀
  have hS0 : ∀ w, ShOk (fun _ => False) w := fun w a h => h.elim
  have trs : ∀ {A w w'}, Ext Vn A w → Ext Vn w w' → Ext Vn A w' := fun h r => h.trans r
  refine Held.finish (K := fun g w => ∃ T' k, T'[6]? = some (.bool true) ∧ g = G { fRf T' k with mode := .returning } [] ∧ Keep W w) ?_ (fun Sh g w hK hi d => by
    obtain ⟨T', k, h4, rfl, hk⟩ := hK
    exact fin_lawF (w := w.at d) h4 ⟨⟨hk.1, hk.2⟩, hi.1, hi.2⟩)
  by_cases h5 : 5000 < ips.length
  · -- too many picks for the law
    refine (H₀.walk gone_stb fun g w hK => ⟨30, by
      obtain ⟨rfl, hK⟩ := hK
      exact f_no (mn := (0 == 0)) (Q := fun w => Ext Vn W w) (fun _ _ h r => h.trans r) h5 w hK⟩).bind fun mA TA HA => ?_
    obtain ⟨T1, H⟩ := HA.ex
    obtain ⟨a1, H⟩ := H.and
    refine (awake_call (Q := fun w => Ext Vn W w) (Nat.le_refl 1) (H.mono (fun g w h => ⟨h.1, hS0 w, h.2⟩) (fun _ _ h => h))).bind fun mB TB HB => ?_
    obtain ⟨Sh₅, HB⟩ := HB
    have HB' := HB.mono (K' := fun g w => g = G ((base 6).at (Act.put ⟨T1, []⟩ ((opsFb[0]?).bind (·.dst)) (.bool true)) (.inRegion opsFb [1] :: .code .ret :: .code cdF1 :: [])) [] ∧ Keep W w) (fun g w h => by
      obtain ⟨Wx, h1, h2, h3, h4⟩ := h
      exact ⟨h1, (keep_of h2).trans h3⟩) (fun _ _ h => h)
    exact (HB'.walk gone_stb fun g w hK => ⟨10, by
      obtain ⟨rfl, hK⟩ := hK
      exact f_out0 (mn := (0 == 0)) (Q := fun w => Keep W w) (fun _ _ h r => h.ext r) w hK T1 a1⟩).mono fun m' T' H => ⟨_, _, H⟩
  -- the box of ran
  refine (H₀.walk gone_stb fun g w hK => ⟨30, by
    obtain ⟨rfl, hK⟩ := hK
    exact f_yes (mn := (0 == 0)) (Q := fun w => Ext Vn W w) (fun _ _ h r => h.trans r) (by omega) w hK⟩).bind fun mA TA HA => ?_
  obtain ⟨T1, H⟩ := HA.ex
  obtain ⟨⟨a1, a2, a3, a4⟩, H⟩ := H.and
  obtain ⟨n1, p1⟩ := c_f1 (main := (0 == 0)) (hS0 W) (sP := .slice ap ips.length pc) (sM := .int .u8 mi) (sX := .int .u8 xe)
  refine (H.walk gone_stb fun g w hK => ⟨n1 + 1, by
    obtain ⟨rfl, hK⟩ := hK
    rw [cdF1_eq]
    exact goes_partF (fun a w w' h r => by
      obtain ⟨T, sb, h1, h2, h3, h4, h5, h6, h7⟩ := h
      exact ⟨T, sb, h1, h2, h3, h4, h5, h6, h7.rl r⟩) (fun w' hr => p1 _ T1 w' a1 a2 a3 a4 (trs hK hr))⟩).bind fun mB TB HB => ?_
  have HB' := HB.mono (K' := fun g w => ∃ sb T', (T'.size = 105 ∧ T'[0]? = some (.slice ap ips.length pc) ∧ T'[1]? = some (.int .u8 mi) ∧ T'[2]? = some (.int .u8 xe) ∧ T'[7]? = some (pb sb)) ∧ g = G (fRf T' (.code cdF2 :: [])) [] ∧ Kn W [(sb, Obj.cells #[.int .i64 0] 3 (0, 0))] w) (fun g w h => by
    obtain ⟨a', h0, T, sb, rfl, h2, h3, h4, h5, h6, h7⟩ := h
    exact ⟨sb, T, ⟨h2, h3, h4, h5, h6⟩, h0, h7⟩) (fun _ _ h => h)
  obtain ⟨sb, H⟩ := HB'.ex
  obtain ⟨T2, H⟩ := H.ex
  obtain ⟨hT2, H⟩ := H.and
  obtain ⟨W₁, hk1, H⟩ := H.anchor
  have e1 : Ext Vn W W₁ := hk1.1
  obtain ⟨hlo, hbox⟩ := hk1.2 (sb, Obj.cells #[.int .i64 0] 3 (0, 0)) (by simp)
  simp only at hlo hbox
  obtain ⟨n, hn⟩ : ∃ n, n = xe % 70 := ⟨_, rfl⟩
  have hn70 : n < 70 := by rw [hn]; exact Nat.mod_lt _ (by omega)
  refine (partF1 (n := n) hmi hxe (by omega) (by omega) (H.mono (fun g w h => ⟨T2, hT2, h⟩) (fun _ _ h => h))).bind fun mC TC HC => ?_
  obtain ⟨au, H⟩ := HC.ex
  obtain ⟨uc, H⟩ := H.ex
  obtain ⟨T3, H⟩ := H.ex
  obtain ⟨hT3, H⟩ := H.and
  obtain ⟨W₂, ⟨e2, hx2⟩, H⟩ := H.anchor
  have hbox2 : W₂.heap[sb]? = some (.cells #[.int .i64 0] 3 (0, 0)) := (e2.same sb (Array.getElem?_eq_some_iff.1 hbox).1 id).trans hbox
  have e12 : Ext Vn W W₂ := e1.trans e2
  have hp2 : VRow W₂ ap (intv ips) := vrow_ext hp e12
  have hkW : Keep W W₂ := keep_of e12
  refine (partF2 hp2 (by omega) (by omega) (H.mono (fun g w h => ⟨T3, hT3, h⟩) (fun _ _ h => h))).bind fun mD TD HD => ?_
  obtain ⟨T5, H⟩ := HD.ex
  obtain ⟨⟨b1, b2, b3, b4⟩, H⟩ := H.and
  have hlen : (tksF sb n mi).length = n := tksF_len
  have hm4 : n ≤ 64 → ¬ (64 < n ∨ 4096 < ips.length) → True := fun _ _ => trivial
  by_cases hmany : 64 < n ∨ 4096 < ips.length
  · rw [show wantF n ips.length mi = 12 by unfold wantF; rw [if_pos hmany], wfold_ne (by decide)] at b4
    refine (run_many (hS0 W₂) hmany H).bind fun mE TE HE => ?_
    exact tailF1 (c := 12) (Nat.le_refl 1) (by decide) hbox2 hkW T5 b1 b2 b3 b4 HE
  have h64 : n ≤ 64 := by omega
  have h40 : ips.length ≤ 4096 := by omega
  by_cases hhole : mi < n
  · rw [show wantF n ips.length mi = 1 by unfold wantF; rw [if_neg hmany, if_pos hhole], wfold_ne (by decide)] at b4
    have hnil : (tksF sb n mi)[mi]? = some .nilIface := by
      unfold tksF
      rw [if_pos hhole]
      simp [hhole]
    have H' := H
    rw [← hlen] at H'
    refine (run_hole (hS0 W₂) (by omega) h40 hx2 tksF_if hnil H').bind fun mE TE HE => ?_
    exact tailF1 (c := 1) (Nat.le_refl 1) (by decide) hbox2 hkW T5 b1 b2 b3 b4 HE
  rw [show wantF n ips.length mi = 0 by unfold wantF; rw [if_neg hmany, if_neg hhole]] at b4
  have htk : tksF sb n mi = List.replicate n (adV sb) := by unfold tksF; rw [if_neg hhole]
  rw [htk] at hx2
  have hrl : (List.replicate n (adV sb)).length = n := by simp
  rcases bad_or ips n with hbad | hgood
  · rw [wfold_bad ips hbad] at b4
    have H' := H
    rw [← hrl] at H'
    refine (run_range (hS0 W₂) (by omega) h40 hx2 (fun v hv => by rw [(List.mem_replicate.1 hv).2]; exact ⟨_, _, rfl⟩) hp2 (by rw [hrl]; exact hbad) H').bind fun mE TE HE => ?_
    exact tailF1 (c := 3) (Nat.le_refl 1) (by decide) hbox2 hkW T5 b1 b2 b3 b4 HE
  -- the run
  rw [wfold_ok ips hgood] at b4
  obtain ⟨ps, hips, hpl, hps⟩ := nats_of ips n hgood
  rw [hips] at hp hp2
  have H' := H.mono (K' := fun g w => g = G (fRun (entryT (.slice ap ps.length pc) (.slice au (List.replicate n (adV sb)).length uc)) [.code bodyM]) ((base 6).at ⟨T5, []⟩ (.inRegion opsFc (2 :: [3, 4, 5, 6, 7]) :: .code cdF10 :: []) :: []) ∧ PreT (fun _ => False) au ap (List.replicate n (adV sb)) ps (fun W => addersT W sb (tmF n) n) (fun _ => (0 : Nat)) sb w ∧ Ext Vn W₂ w) (fun g w h => by
    obtain ⟨h1, h2⟩ := h
    refine ⟨by rw [h1, hrl, hpl], preF (W := W) hlo ((h2.same sb (Array.getElem?_eq_some_iff.1 hbox2).1 id).trans hbox2) h64 (vrow_ext hx2 h2) hp (vrow_ext hp2 h2), h2⟩) (fun _ _ h => h)
  refine (run_tasks (Q := fun w => Ext Vn W₂ w) (Nat.le_refl 1) (by omega) (by omega) (fun i hi => by rw [hrl]; exact hps i hi) (fun v hv => by rw [(List.mem_replicate.1 hv).2]; exact ⟨_, _, rfl⟩) H').bind fun mE TE HE => ?_
  obtain ⟨Sh₅, HE⟩ := HE
  have HE' := HE.mono (K' := fun g w => ∃ a c, g = G ((base 6).at (Act.put ⟨T5, []⟩ ((opsFc[2]?).bind (·.dst)) (.tuple #[.slice a n c, .int .i64 (0 : Nat)])) (.inRegion opsFc [3, 4, 5, 6, 7] :: .code cdF10 :: [])) [] ∧ (Keep W w ∧ ShOk Sh₅ w)) (fun g w h => by
    obtain ⟨Wx, u, h1, hP, hQ, hsz, hfr, _, hsh, hrow⟩ := h
    have hE : ((addersT Wx sb (tmF n) n).fin (0 : Nat) (List.replicate n (adV sb)).length ps).E.length = n := by
      rw [hrl]
      exact fin_len hP.ok hps 0
    rw [hE] at hrow
    obtain ⟨a, c, rfl⟩ : ∃ a c, u = .slice a n c := by
      rcases hrow.2 with ⟨hu, h0⟩ | ⟨g', cap, cur, hu, _⟩
      · exact ⟨none, 0, by rw [hu, h0]⟩
      · exact ⟨_, _, hu⟩
    have hkx := hkW.trans (keep_of hQ)
    exact ⟨a, c, h1, ⟨Nat.le_trans hkx.1 hsz, fun b hb => (hfr b (Nat.lt_of_lt_of_le hb hkx.1) (by omega)).trans (hkx.2 b hb)⟩, hsh⟩) (fun _ _ h => h)
  obtain ⟨ae, H⟩ := HE'.ex
  obtain ⟨ce, H⟩ := H.ex
  obtain ⟨W₃, ⟨kp3, sh3⟩, H⟩ := H.anchor
  refine (H.walk gone_stb fun g w hK => ⟨30, by
    obtain ⟨rfl, hK⟩ := hK
    exact f_mid (mn := (0 == 0)) (Q := fun w => Ext Vn W₃ w) (fun _ _ h r => h.trans r) w hK T5 b1 b2 b3 b4⟩).bind fun mF TF HF => ?_
  obtain ⟨T6, H⟩ := HF.ex
  obtain ⟨⟨c1, c2, c3, c4, c5, c6⟩, H⟩ := H.and
  refine (awake_call (Q := fun w => Ext Vn W₃ w) (by omega) (H.mono (fun g w h => ⟨h.1, pre_ext sh3 h.2, h.2⟩) (fun _ _ h => h))).bind fun mB TB HB => ?_
  obtain ⟨Sh₆, HB⟩ := HB
  have HB' := HB.mono (K' := fun g w => g = G ((base 6).at (Act.put ⟨T6, []⟩ ((opsFd[0]?).bind (·.dst)) (.bool true)) (.inRegion opsFd [1, 2, 3, 4, 5, 6, 7, 8, 9, 10, 11, 12, 13, 14, 15, 16, 17, 18, 19, 20, 21, 22, 23, 24, 25, 26, 27, 28, 29, 30] :: .code .ret :: [])) [] ∧ Keep W w) (fun g w h => by
    obtain ⟨Wx, h1, h2, h3, h4⟩ := h
    exact ⟨h1, (kp3.trans (keep_of h2)).trans h3⟩) (fun _ _ h => h)
  exact (HB'.walk gone_stb fun g w hK => ⟨60, by
    obtain ⟨rfl, hK⟩ := hK
    exact f_out1 (mn := (0 == 0)) (Q := fun w => Keep W w) (fun _ _ h r => h.ext r) w hK T6 c1 c3 c4 c5 c6⟩).mono fun m' T' H => ⟨_, _, H⟩
#print axioms law_refuses
end
end Go.Proofs.Ytggfcdhkgldbfaa
