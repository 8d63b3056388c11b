/-
  PARTS of a claim, merged by segs.py: NwLaw.
-/
import Derived.Test.YtggfcdhkgldbfaaN46
import Derived.Test.YtggfcdhkgldbfaaN47
import Derived.Test.YtggfcdhkgldbfaaN29
import Derived.Test.YtggfcdhkgldbfaaN31
namespace Go.Proofs.Ytggfcdhkgldbfaa
set_option linter.unusedSimpArgs false
set_option linter.unusedVariables false

/-! ### NwLaw -/
section
set_option linter.unusedSimpArgs false
open Go Go.Conc Go.RowKit Go.ConcR.Gen Cw

theorem enter_lawN (v v2 lv : Value) : Frame.enter Try.prog 5 #[v, v2, lv] .normal = fNs #[v, v2, lv, undef, undef, undef, undef, undef, undef, undef, undef, undef, undef, undef, undef, undef, undef, undef, undef, undef, undef, undef, undef, undef, undef, undef, undef, undef, undef, undef, undef, undef, undef, undef, undef, undef, undef, undef, undef, undef, undef, undef, undef, undef, undef, undef, undef, undef, undef, undef, undef, undef, undef, undef, undef, undef, undef, undef, undef, undef, undef, undef, undef, undef, undef, undef, undef, undef, undef, undef, undef] [.code bodyNs] := by
  rw [enter_at (c := bodyNs) _ Try.func5 (by simp [bodyNs, Try.f5])]
  simp only [Try.ntmps5, List.size_toArray, List.length_cons, List.length_nil, Nat.reduceAdd, Nat.reduceSub, Nat.zero_add, Nat.sub_zero, Array.replicate_succ, Array.replicate_zero, List.push_toArray, List.append_toArray, List.nil_append, List.cons_append]
theorem fin_lawN {Sh : Loc → Prop} {T : Array Value} {k : List Item} {W w : World} (h4 : T[6]? = some (.bool true)) (h : Leaves W w) : AtFin Try.prog (Cx0 Sh) (fun r w' => r = .bool true ∧ Leaves W w') (G { fNs T k with mode := .returning } []) w := by
  refine ⟨rfl, fun d => ⟨.bool true, #[], ?_, by simp, rfl, ⟨h.keep.1, h.keep.2⟩, h.os, h.output⟩⟩
  simp [G, stepG, unwind, doReturn, results, Frame.at, base, Try.func5, Try.f5, seen, GStep.after, h4]
theorem valid_ltN {p : List Nat} {n : Nat} : ∀ x ∈ validP p n, x < n := fun x hx => by
  unfold validP at hx
  split at hx
  · simp at hx
  · obtain ⟨y, _, rfl⟩ := List.mem_map.1 hx
    exact Nat.mod_lt _ (by omega)
theorem valid_lenN {p : List Nat} {n : Nat} : (validP p n).length ≤ p.length := by
  unfold validP
  split <;> simp
theorem few_ofN {np : Nat} {L : List (List ByteArray)} (h : fewB np L = true) : np ≤ 100 ∧ L.length ≤ 10 ∧ ∀ k, (Sk L k).length ≤ 20 := by
  simp only [fewB, Bool.and_eq_true, List.all_eq_true, decide_eq_true_eq] at h
  refine ⟨h.2.1, h.2.2, fun k => ?_⟩
  unfold Sk
  cases hk : L[k]? with
  | none => simp
  | some S => exact h.1 S (List.mem_of_getElem? hk)
theorem rsE_lenN {L : List (List ByteArray)} {s : List Nat × List (Int × ByteArray)} {t : Nat} : (refStep L s t).2.length ≤ s.2.length + 1 := by
  unfold refStep
  cases (Sk L t)[s.1.getD t 0]? <;> simp
theorem itrE_lenN {L : List (List ByteArray)} {t : Nat} : ∀ (n : Nat) (s : List Nat × List (Int × ByteArray)), (itr (fun s => refStep L s t) n s).2.length ≤ s.2.length + n
  | 0, s => by simp [itr]
  | n + 1, s => by
    have h1 := itrE_lenN (L := L) (t := t) n (refStep L s t)
    have h2 := rsE_lenN (L := L) (s := s) (t := t)
    simp only [itr]
    omega
theorem rdE_lenN {L : List (List ByteArray)} {s : List Nat × List (Int × ByteArray)} {t c : Nat} (h : (Sk L t).length ≤ c) : (refDrain L s t).2.length ≤ s.2.length + c := by
  have := itrE_lenN (L := L) (t := t) ((Sk L t).length - s.1.getD t 0) s
  unfold refDrain
  omega
theorem foldE_lenN {α : Type} {f : List Nat × List (Int × ByteArray) → α → List Nat × List (Int × ByteArray)} {c : Nat} (h : ∀ s t, (f s t).2.length ≤ s.2.length + c) : ∀ (l : List α) s, (l.foldl f s).2.length ≤ s.2.length + c * l.length
  | [], s => by simp
  | a :: l, s => by
    have h1 := foldE_lenN h l (f s a)
    have h2 := h s a
    simp only [List.foldl_cons, List.length_cons]
    have : c * (l.length + 1) = c * l.length + c := by rw [Nat.mul_add, Nat.mul_one]
    omega
theorem rrE_lenN {L : List (List ByteArray)} {ps : List Nat} {c : Nat} (h3 : ∀ k, (Sk L k).length ≤ c) : (refRun L ps).length ≤ ps.length + c * L.length := by
  have a := foldE_lenN (f := refStep L) (c := 1) (fun s t => rsE_lenN) ps (List.replicate L.length 0, [])
  have b := foldE_lenN (f := refDrain L) (c := c) (fun s t => rdE_lenN (h3 t)) (List.range L.length) (ps.foldl (refStep L) (List.replicate L.length 0, []))
  simp only [List.length_nil, List.length_range] at a b
  unfold refRun
  omega
theorem u8row_kp {W w : World} (h : Keep W w) {v : Value} {p : List Nat} (x : U8Row W v p) : U8Row w v p := by
  obtain ⟨a, cap, rfl, x⟩ := x
  refine ⟨a, cap, rfl, ?_⟩
  rcases x with x | ⟨b, o, ha, hc⟩
  · exact .inl x
  · exact .inr ⟨b, o, ha, fun k x hk => cell_kp h (hc k x hk)⟩
theorem nts_strV {w : World} {a : Option Addr} {E : List (Int × ByteArray)} (h : VRow w a (strV E)) : Nts a (E.map (·.2)) w := by
  rcases h with h | ⟨b, o, ha, hc⟩
  · exact .inl (by simpa [strV] using h)
  · refine .inr ⟨b, o, ha, fun k s hk => hc k _ ?_⟩
    simp only [strV, List.getElem?_map, Option.map_eq_some_iff] at hk ⊢
    obtain ⟨x, hx, rfl⟩ := hk
    exact ⟨x, hx, rfl⟩
/-- Too many: the example alone. -/
theorem nests_no [R0 : Ref] {W₁ : World} {m : Machine} {T : Trace} {T3 : Array Value} (kW1 : Keep R0.w W₁) (b1 : T3.size = 71) (b4 : T3[29]? = some (.bool true))
    (H₃ : Held Try.prog (Cx0 fun _ => False) Vn 0 0 1 Gone (fun g w => g = G (fNs T3 (.inRegion opsNs2 [] :: .code condNs :: .code restNs :: [])) [] ∧ Ext Vn W₁ w) m T) :
    Lands Try.prog m T (fun m' T' => ∃ Sh γ, Held Try.prog (Cx0 Sh) Vn 0 0 γ Gone (fun g w => ∃ T' k, T'[6]? = some (.bool true) ∧ g = G { fNs T' k with mode := .returning } [] ∧ Keep R0.w w) m' T') := by
  have hS0 : ∀ w, ShOk (fun _ => False) w := fun w a h => h.elim
  refine (H₃.walk gone_stb fun g w hK => ⟨20, by
    obtain ⟨rfl, hK⟩ := hK
    exact x_no (mn := (0 == 0)) (Q := fun w => Ext Vn W₁ w) (fun _ _ h r => h.trans r) w hK T3 b1 b4⟩).bind fun m₄ T₄ H₄ => ?_
  obtain ⟨T4, H₄⟩ := H₄.ex
  obtain ⟨d1, H₄⟩ := H₄.and
  refine (awake_call (Q := fun w => Ext Vn W₁ w) (Nat.le_refl 1) (b₀ := base 5) (a₀ := ⟨T4, []⟩) (ops := opsNs3) (j := 0) (rest := [1]) (kk := .code .ret :: .code restNs :: []) (cs := []) (H₄.mono (fun g w h => ⟨h.1, hS0 w, h.2⟩) (fun _ _ h => h))).bind fun m₅ T₅ H₅ => ?_
  obtain ⟨Sh₅, γ₅, _, H₅⟩ := H₅
  have H₅' := H₅.mono (K' := fun g w => g = G ((base 5).at (Act.put ⟨T4, []⟩ ((opsNs3[0]?).bind (·.dst)) (.bool true)) (.inRegion opsNs3 [1] :: .code .ret :: .code restNs :: [])) [] ∧ Keep R0.w w) (fun g w h => by
    obtain ⟨Wx, h1, h2, h3, h4⟩ := h
    exact ⟨h1, kW1.trans ((keep_of h2).trans h3)⟩) (fun _ _ h => h)
  refine (H₅'.walk gone_stb fun g w hK => ⟨10, by
    obtain ⟨rfl, hK⟩ := hK
    exact x_out0 (mn := (0 == 0)) (Q := fun w => Keep R0.w w) (fun _ _ h r => h.ext r) w hK T4 d1⟩).mono fun m' T' H => ⟨_, _, H⟩

set_option maxHeartbeats 4000000 in
theorem law_nests (W : World) {v v2 lv : Value} {p1 p2 : List Nat} {L : List (List ByteArray)} (hp1 : U8Row W v p1) (hp2 : U8Row W v2 p2) (hl : StrRows W lv L) (hpl1 : p1.length ≤ 17179869184) (hpl2 : p2.length ≤ 17179869184) (hx1 : ∀ x ∈ p1, x < 256) (hx2 : ∀ x ∈ p2, x < 256) (hn : L.length < 9223372036854775807) (hln : ∀ S ∈ L, S.length < 9223372036854775807) :
    ∃ M last o w' t', runNT Try.prog (M + 1) (solo (G (Frame.enter Try.prog 5 #[v, v2, lv] .normal) []) W) #[] = (.ended o w', t') ∧ runN Try.prog M (solo (G (Frame.enter Try.prog 5 #[v, v2, lv] .normal) []) W) = .next last ∧
      step Try.prog last = .ended o w' ∧ Go.Conc.Good Try.prog (fun r w' => r = .bool true ∧ Leaves W w') last o w' t' := by
  letI : Ref := ⟨W⟩
  obtain ⟨al, lcap, us, rfl, hul, hus, huS, huk⟩ := rows_us hl
  rw [enter_lawN]
  have H₀ := held_init Try.prog (G (fNs #[v, v2, .slice al L.length lcap, undef, undef, undef, undef, undef, undef, undef, undef, undef, undef, undef, undef, undef, undef, undef, undef, undef, undef, undef, undef, undef, undef, undef, undef, undef, undef, undef, undef, undef, undef, undef, undef, undef, undef, undef, undef, undef, undef, undef, undef, undef, undef, undef, undef, undef, undef, undef, undef, undef, undef, undef, undef, undef, undef, undef, undef, undef, undef, undef, undef, undef, undef, undef, undef, undef, undef, undef, undef] [.code bodyNs]) [])
  change Held Try.prog (Cx0 fun _ => False) Vn 0 0 1 Gone (fun g w => _ ∧ Ext Vn W w) _ _ at H₀
  have hS0 : ∀ w, ShOk (fun _ => False) w := fun w a h => h.elim
  refine Held.finish (K := fun g w => ∃ T' k, T'[6]? = some (.bool true) ∧ g = G { fNs T' k with mode := .returning } [] ∧ Keep W w) ?_ (fun Sh g w hK hi d => by
    obtain ⟨T', k, h4, rfl, hk⟩ := hK
    exact fin_lawN (w := w.at d) h4 ⟨⟨hk.1, hk.2⟩, hi.1, hi.2⟩)
  obtain ⟨P, hP⟩ : ∃ P, P = validP p1 2 := ⟨_, rfl⟩
  have hPl : P.length ≤ p1.length := by rw [hP]; exact valid_lenN
  have hPx : ∀ x ∈ P, x < 2 := by rw [hP]; exact valid_ltN
  obtain ⟨Qs, hQ⟩ : ∃ Qs, Qs = validP p2 L.length := ⟨_, rfl⟩
  have hQl : Qs.length ≤ p2.length := by rw [hQ]; exact valid_lenN
  have hQx : ∀ x ∈ Qs, x < L.length := by rw [hQ]; exact valid_ltN
  -- valid, of the outer picks
  obtain ⟨k1, c1⟩ := c_valid (main := (0 == 0)) (hS0 W) hp1 2 hpl1 (by omega) hx1
  rw [← hP] at c1
  refine (H₀.walk gone_stb fun g w hK => ⟨10 + k1 + 3 + 20, by
    obtain ⟨rfl, hK⟩ := hK
    exact x_valid1 (mn := (0 == 0)) (Q := fun w => Ext Vn W w) (fun _ _ h r => h.trans r) (Rv := fun r w => ∃ a c, r = .slice a P.length c ∧ VRow w a (ints P)) w hK (fun w hw => (c1 w hw).mono fun r w' h => ⟨h.1, by
      obtain ⟨a, c, h1, h2, h3⟩ := own_vrow h.2
      exact ⟨a, c, by rw [h1, h3], h2⟩⟩) (fun r w w' h e => by obtain ⟨a, c, h1, h2⟩ := h; exact ⟨a, c, h1, vrow_ext h2 e⟩)⟩).bind fun m₁ T₁ H₁ => ?_
  have H₁' := H₁.mono (K' := fun g w => ∃ a c T', (T'.size = 71 ∧ T'[1]? = some v2 ∧ T'[2]? = some (.slice al L.length lcap) ∧ T'[15]? = some (.slice a P.length c)) ∧ g = G (fNs T' (.inRegion opsNs1 [2, 3, 4, 5, 6, 7] :: .code (rt (rt bodyNs)) :: [])) [] ∧ (Ext Vn W w ∧ VRow w a (ints P))) (fun g w h => by
    obtain ⟨r, T', h1, h2, h3, a, c, rfl, h4⟩ := h
    exact ⟨a, c, T', h1, h2, h3, h4⟩) (fun _ _ h => h)
  obtain ⟨ap, H₂⟩ := H₁'.ex
  obtain ⟨pcap, H₂⟩ := H₂.ex
  obtain ⟨T2, H₂⟩ := H₂.ex
  obtain ⟨⟨a1, a2, a3, a4⟩, H₂⟩ := H₂.and
  obtain ⟨W₁, ⟨e1, vp⟩, H₂⟩ := H₂.anchor
  clear H₀ H₁ H₁' c1
  have kW1 := keep_of e1
  -- valid, of the inner picks
  obtain ⟨k1, c1⟩ := c_valid (main := (0 == 0)) (hS0 W₁) (u8row_kp kW1 hp2) L.length hpl2 hn hx2
  rw [← hQ] at c1
  refine (H₂.walk gone_stb fun g w hK => ⟨10 + k1 + 3 + 20, by
    obtain ⟨rfl, hK⟩ := hK
    exact x_valid2 (mn := (0 == 0)) (Q := fun w => Ext Vn W₁ w) (fun _ _ h r => h.trans r) (Rv := fun r w => ∃ a c, r = .slice a Qs.length c ∧ VRow w a (ints Qs)) w hK T2 a1 a2 a3 a4 (fun w hw => (c1 w hw).mono fun r w' h => ⟨h.1, by
      obtain ⟨a, c, h1, h2, h3⟩ := own_vrow h.2
      exact ⟨a, c, by rw [h1, h3], h2⟩⟩) (fun r w w' h e => by obtain ⟨a, c, h1, h2⟩ := h; exact ⟨a, c, h1, vrow_ext h2 e⟩)⟩).bind fun m₁ T₁ H₁ => ?_
  have H₁' := H₁.mono (K' := fun g w => ∃ a c T', (T'.size = 71 ∧ T'[2]? = some (.slice al L.length lcap) ∧ T'[15]? = some (.slice ap P.length pcap) ∧ T'[19]? = some (.slice a Qs.length c)) ∧ g = G (fNs T' (.inRegion opsNs1 [6, 7] :: .code (rt (rt bodyNs)) :: [])) [] ∧ (Ext Vn W₁ w ∧ VRow w a (ints Qs))) (fun g w h => by
    obtain ⟨r, T', h1, h2, h3, a, c, rfl, h4⟩ := h
    exact ⟨a, c, T', h1, h2, h3, h4⟩) (fun _ _ h => h)
  obtain ⟨aq, H₃⟩ := H₁'.ex
  obtain ⟨qcap, H₃⟩ := H₃.ex
  obtain ⟨T3, H₃⟩ := H₃.ex
  obtain ⟨⟨b1, b2, b3, b4⟩, H₃⟩ := H₃.and
  obtain ⟨W₂, ⟨e2, vq⟩, H₃⟩ := H₃.anchor
  clear H₁ H₁' H₂ c1
  have kW12 := keep_of e2
  have kW2 := kW1.trans kW12
  have vp2 := vrow_kp kW12 vp
  clear a1 a2 a3 a4
  -- few
  obtain ⟨k2, c2⟩ := c_few (main := (0 == 0)) (hS0 W₂) ap P.length pcap (strrows_kp kW2 hl) hn hln (by omega)
  obtain ⟨k3, c3⟩ := c_few (main := (0 == 0)) (hS0 W₂) aq Qs.length qcap (strrows_kp kW2 hl) hn hln (by omega)
  cases hfew : fewB P.length L with
  | false =>
    rw [hfew] at c2
    refine (H₃.walk gone_stb fun g w hK => ⟨10 + k2 + 3 + 0 + 60, by
      obtain ⟨rfl, hK⟩ := hK
      exact x_few0 (k2 := 0) (mn := (0 == 0)) (Q := fun w => Ext Vn W₂ w) (fun _ _ h r => h.trans r) w hK T3 b1 b2 b3 b4 c2⟩).bind fun m₃ T₃ H₃ => ?_
    obtain ⟨T4, H₃⟩ := H₃.ex
    obtain ⟨⟨d1, _, _, _, d5⟩, H₃⟩ := H₃.and
    exact nests_no kW2 d1 d5 H₃
  | true =>
    rw [hfew] at c2
    refine (H₃.walk gone_stb fun g w hK => ⟨10 + k2 + 3 + k3 + 60, by
      obtain ⟨rfl, hK⟩ := hK
      exact x_few1 (mn := (0 == 0)) (Q := fun w => Ext Vn W₂ w) (fun _ _ h r => h.trans r) w hK T3 b1 b2 b3 b4 c2 c3⟩).bind fun m₃ T₃ H₄ => ?_
    obtain ⟨T4, H₄⟩ := H₄.ex
    obtain ⟨⟨d1, d2, d3, d4, d5⟩, H₄⟩ := H₄.and
    clear H₃ c2 c3
    cases hfew2 : fewB Qs.length L with
    | false =>
      rw [hfew2] at d5
      exact nests_no kW2 d1 d5 H₄
    | true =>
    rw [hfew2] at d5
    obtain ⟨f1, f2, f3⟩ := few_ofN hfew
    obtain ⟨g1, _, _⟩ := few_ofN hfew2
    have hus2 := vrow_kp kW2 hus
    have huk2 : ∀ k, ∃ a c, slK us k = .slice a (Sk L k).length c ∧ Nts a (Sk L k) W₂ := fun k => by
      obtain ⟨a, c, h1, h2⟩ := huk k
      exact ⟨a, c, h1, nts_kp kW2 h2⟩
    obtain ⟨Ei, hEi⟩ : ∃ E, E = refRun L Qs := ⟨_, rfl⟩
    have hEl : Ei.length ≤ 300 := by
      have h1 := rrE_lenN (ps := Qs) f3
      rw [← hEi] at h1
      omega
    -- the document's run of the inner lists
    obtain ⟨k5, c5⟩ := c_refrun (main := (0 == 0)) (hS0 W₂) lcap qcap vq hus2 hul huk2 (fun k => by have := f3 k; omega) (by omega) hQx (by omega)
    rw [← hEi] at c5
    refine (H₄.walk gone_stb fun g w hK => ⟨10 + k5 + 3 + 30, by
      obtain ⟨rfl, hK⟩ := hK
      exact x_yes (mn := (0 == 0)) (Q := fun w => Ext Vn W₂ w) (fun _ _ h r => h.trans r) (Rv := fun r w => ∃ a c, r = .slice a Ei.length c ∧ EvRow w a Ei) w hK T4 d1 d2 d3 d4 d5 (fun w hw => (c5 w hw).mono fun r w' h => ⟨h.1, own_evrow h.2⟩) (fun r w w' h e => by obtain ⟨a, c, h1, h2⟩ := h; exact ⟨a, c, h1, evrow_ext h2 e⟩)⟩).bind fun m₅ T₅ H₅ => ?_
    have H₅' := H₅.mono (K' := fun g w => ∃ a c T', (T'.size = 71 ∧ T'[2]? = some (.slice al L.length lcap) ∧ T'[7]? = some (.slice ap P.length pcap) ∧ T'[8]? = some (.slice aq Qs.length qcap) ∧ T'[9]? = some (.slice none 0 0) ∧ T'[33]? = some (.slice a Ei.length c)) ∧ g = G (fNs T' (.inRegion opsNs5 [3, 4] :: .code cdNsL :: .code cdNs10 :: [])) [] ∧ (Ext Vn W₂ w ∧ EvRow w a Ei)) (fun g w h => by
      obtain ⟨r, T', h1, h2, h3, a, c, rfl, h4⟩ := h
      exact ⟨a, c, T', h1, h2, h3, h4⟩) (fun _ _ h => h)
    obtain ⟨ae, H₆⟩ := H₅'.ex
    obtain ⟨ec, H₆⟩ := H₆.ex
    obtain ⟨T6, H₆⟩ := H₆.ex
    obtain ⟨⟨i1, i2, i3, i4, i5, i6⟩, H₆⟩ := H₆.and
    obtain ⟨W₃, ⟨e3, ev3⟩, H₆⟩ := H₆.anchor
    clear H₄ H₅ H₅' c5 b1 b2 b3 b4 d1 d2 d3 d4 d5
    refine (H₆.walk gone_stb fun g w hK => ⟨20, by
      obtain ⟨rfl, hK⟩ := hK
      exact x_loop0 (mn := (0 == 0)) (Q := fun w => Ext Vn W₃ w) (fun _ _ h r => h.trans r) w hK T6 i1 i2 i3 i4 i5 i6⟩).bind fun m₇ T₇ H₇ => ?_
    obtain ⟨T7, H₇⟩ := H₇.ex
    obtain ⟨⟨j1, j2, j3, j4, j5, j6, j7, j8⟩, H₇⟩ := H₇.and
    obtain ⟨k7, p7⟩ := c_nl (Sh := fun _ => False) (main := (0 == 0)) (hS0 W₃) (al := al) (ap := ap) (aq := aq) (n := L.length) (lcap := lcap) (np := P.length) (pcap := pcap) (nq := Qs.length) (qcap := qcap) (ec := ec) ev3 (by omega)
    refine (H₇.walk gone_stb fun g w hK => ⟨k7, by
      obtain ⟨rfl, hK⟩ := hK
      exact goes_partN (fun a w w' h r => by
        obtain ⟨T, u, h1, h2, h3, h4, h5, h6, h7, h8⟩ := h
        exact ⟨T, u, h1, h2, h3, h4, h5, h6, h7.trans r, ownsRow_ext h8 r fun _ _ => id⟩) (p7 _ T7 w j1 j2 j3 j4 j5 j6 j7 j8 hK)⟩).bind fun m₈ T₈ H₈ => ?_
    have H₈' := H₈.mono (K' := fun g w => ∃ a c T', (T'.size = 71 ∧ T'[2]? = some (.slice al L.length lcap) ∧ T'[7]? = some (.slice ap P.length pcap) ∧ T'[8]? = some (.slice aq Qs.length qcap) ∧ T'[9]? = some (.slice a (Ei.map (·.2)).length c)) ∧ g = G (fNs T' (.code cdNs10 :: [])) [] ∧ (Ext Vn W₃ w ∧ Nts a (Ei.map (·.2)) w)) (fun g w h => by
      obtain ⟨a', ⟨rfl, T', u, h1, h2, h3, h4, h5, h6, h7, h8⟩⟩ := h
      obtain ⟨a, c, rfl, hv, _⟩ := own_vrow h8
      subst h1
      exact ⟨a, c, T', ⟨h2, h3, h4, h5, by rw [h6]; simp [strV]⟩, rfl, h7, nts_strV hv⟩) (fun _ _ h => h)
    obtain ⟨a9, H₉⟩ := H₈'.ex
    obtain ⟨c9, H₉⟩ := H₉.ex
    obtain ⟨T9, H₉⟩ := H₉.ex
    obtain ⟨⟨q1, q2, q3, q4, q5⟩, H₉⟩ := H₉.and
    obtain ⟨W₄, ⟨e4, nt4⟩, H₉⟩ := H₉.anchor
    clear H₆ H₇ H₈ H₈' p7 i1 i2 i3 i4 i5 i6 j1 j2 j3 j4 j5 j6 j7 j8
    have kW24 := (keep_of e3).trans (keep_of e4)
    have kW4 := kW2.trans kW24
    -- into the outer run
    refine (H₉.mono (K' := fun g w => g = _ ∧ Kn Vn W₄ [] w) (fun g w h => ⟨h.1, h.2, by simp⟩) (fun _ _ h => h)).walk gone_stb (fun g w hK => ⟨40, by
      obtain ⟨rfl, hK⟩ := hK
      exact x_run (mn := (0 == 0)) w hK T9 q1 q2 q3 q4 q5⟩) |>.bind fun m₁ T₁ H₁ => ?_
    obtain ⟨S0, hS0e⟩ : ∃ S, S = Ei.map (·.2) := ⟨_, rfl⟩
    rw [← hS0e] at nt4
    have hS0l : S0.length ≤ 300 := by rw [hS0e]; simpa using hEl
    obtain ⟨Lo, hLo⟩ : ∃ Lo, Lo = [S0, [strX0, strY0]] := ⟨_, rfl⟩
    have H₁' := H₁.mono (K' := fun g w => ∃ sb tb T', (T'.size = 71 ∧ T'[7]? = some (.slice ap P.length pcap) ∧ T'[9]? = some (.slice a9 S0.length c9)) ∧ (g = G (fRun (entryT (.slice ap P.length pcap) (.slice (some ⟨tb, 0, none⟩) 2 2)) [.code bodyM]) ((base 5).at ⟨T', []⟩ (.inRegion opsNs10 (8 :: [9, 10, 11, 12, 13]) :: .code (rt cdNs10) :: []) :: []) ∧
      PreG 1 (fun _ => False) (some ⟨tb, 0, none⟩) ap [Value.iface 43 (nvN aq al Qs.length qcap us.length lcap), Value.iface 44 (.slice (some ⟨sb, 0, none⟩) 2 2)] P (fun W => nestT W [.slice none 0 0, .slice (some ⟨sb, 0, none⟩) 2 2] Lo (nvN aq al Qs.length qcap us.length lcap)) (fun _ => ()) w ∧ Ext Vn W₄ w)) (fun g w h => by
      obtain ⟨sb, tb, T', h1, rfl, h2⟩ := h
      rw [← hS0e] at h1
      rw [← hul] at h2
      have hb1 := (h2.2 (tb, Obj.cells #[.iface 43 (.agg #[.slice aq Qs.length qcap, .slice al us.length lcap]), .iface 44 (.slice (some ⟨sb, 0, none⟩) 2 2)] 50 (0, 0)) (by simp)).2
      have hb2 := (h2.2 (sb, Obj.cells #[.string strX, .string strY] 9 (0, 0)) (by simp)).2
      simp only at hb1 hb2
      have k4w := keep_of h2.1
      refine ⟨sb, tb, T', h1, rfl, nest_pre (S0 := S0) (hS0 w) ⟨vrow_kp (kW24.trans k4w) vq, vrow_kp (kW24.trans k4w) hus2, huS, fun k => ?_, fun k => ?_, by omega, by omega, fun i hi => by rw [hul]; exact hQx i hi, hul.symm, by rw [hS0e, hEi], by omega⟩ rfl hLo (by omega) ?_ (vrow_kp (kW24.trans k4w) vp2) ?_ 1, h2.1⟩
      · obtain ⟨a, c, h1, h2⟩ := huk2 k
        exact ⟨a, c, h1, nts_kp (kW24.trans k4w) h2⟩
      · have := f3 k; omega
      · refine .inr ⟨tb, 0, rfl, fun k u hk => ?_⟩
        match k with
        | 0 => simp at hk; subst hk; simp [World.cell?, hb1]
        | 1 => simp at hk; subst hk; simp [World.cell?, hb1]
        | k + 2 => simp at hk
      · refine ⟨some ⟨sb, 0, none⟩, 2, rfl, .inr ⟨sb, 0, rfl, fun k s hk => ?_⟩⟩
        match k with
        | 0 => simp at hk; subst hk; simp [World.cell?, hb2]
        | 1 => simp at hk; subst hk; simp [World.cell?, hb2]
        | k + 2 => simp at hk) (fun _ _ h => h)
    obtain ⟨sb, H₂⟩ := H₁'.ex
    obtain ⟨tb, H₂⟩ := H₂.ex
    obtain ⟨T2, H₂⟩ := H₂.ex
    obtain ⟨⟨r1, r2, r3⟩, H₂⟩ := H₂.and
    clear H₉ H₁ H₁'
    refine (run_top (tvs := [Value.iface 43 (nvN aq al Qs.length qcap us.length lcap), Value.iface 44 (.slice (some ⟨sb, 0, none⟩) 2 2)]) (ps := P) (Q := fun w => Ext Vn W₄ w) (Nat.le_refl 1) (by simp) (by omega) (fun i hi => by simpa using hPx i hi) (fun v hv => by simp at hv; rcases hv with rfl | rfl <;> exact ⟨_, _, rfl⟩) H₂).bind fun m₃ T₃ H₃ => ?_
    obtain ⟨Sh₃, γ₃, hγ₃, H₃⟩ := H₃
    have hE : ∀ Wx us nv, ((nestT Wx us Lo nv).fin () 2 P).E = refRun Lo P := fun Wx us nv => (nest_fin 2 P).trans (fin_ref (n := 2) (by rw [hLo]; rfl) hPx)
    obtain ⟨E, hEE⟩ : ∃ E, E = refRun Lo P := ⟨_, rfl⟩
    have hLob : ∀ k, (Sk Lo k).length ≤ 300 := fun k => by
      rw [hLo]
      match k with
      | 0 => exact hS0l
      | 1 => simp [Sk]
      | k + 2 => simp [Sk]
    have hEl2 : E.length ≤ 1000 := by
      have h1 := rrE_lenN (ps := P) hLob
      have h2 : Lo.length = 2 := by rw [hLo]; rfl
      rw [← hEE, h2] at h1
      omega
    have H₃' := H₃.mono (K' := fun g w => ∃ a c, g = G ((base 5).at (Act.put ⟨T2, []⟩ ((opsNs10[8]?).bind (·.dst)) (.tuple #[.slice a E.length c, .int .i64 0])) (.inRegion opsNs10 [9, 10, 11, 12, 13] :: .code (rt cdNs10) :: [])) [] ∧ (EvRow w a E ∧ Keep W₄ w ∧ ShOk Sh₃ w)) (fun g w h => by
      obtain ⟨Wx, u, rfl, _, hkW, hk, _, hsh, hrow⟩ := h
      have hrow' : w.ownsRow Wx.heap.size 40 2 u ((nestT Wx [.slice none 0 0, .slice (some ⟨sb, 0, none⟩) 2 2] Lo (nvN aq al Qs.length qcap us.length lcap)).fin () 2 P).E.length (evCells ((nestT Wx [.slice none 0 0, .slice (some ⟨sb, 0, none⟩) 2 2] Lo (nvN aq al Qs.length qcap us.length lcap)).fin () 2 P).E) := hrow
      rw [hE, ← hEE] at hrow'
      obtain ⟨a, c, rfl, h2⟩ := own_evrow hrow'
      exact ⟨a, c, rfl, h2, (keep_of hkW).trans hk, hsh⟩) (fun _ _ h => h)
    obtain ⟨ao, H₄⟩ := H₃'.ex
    obtain ⟨co, H₄⟩ := H₄.ex
    obtain ⟨W₅, ⟨ev5, kp5, sh5⟩, H₄⟩ := H₄.anchor
    refine (H₄.walk gone_stb fun g w hK => ⟨30, by
      obtain ⟨rfl, hK⟩ := hK
      exact x_awk (mn := (0 == 0)) (Q := fun w => Ext Vn W₅ w) (fun _ _ h r => h.trans r) w hK T2 r1 r2 r3⟩).bind fun m₅ T₅ H₅ => ?_
    obtain ⟨T5, H₅⟩ := H₅.ex
    obtain ⟨⟨s1, s2, s3, s4, s5⟩, H₅⟩ := H₅.and
    -- awake
    refine (awake_call (Q := fun w => Ext Vn W₅ w) hγ₃ (b₀ := base 5) (a₀ := ⟨T5, []⟩) (ops := opsNs11) (j := 0) (rest := [1, 2, 3, 4, 5, 6, 7, 8, 9, 10, 11, 12, 13, 14]) (kk := .code .ret :: []) (cs := []) (H₅.mono (fun g w h => ⟨h.1, pre_ext sh5 h.2, h.2⟩) (fun _ _ h => h))).bind fun m₆ T₆ H₆ => ?_
    obtain ⟨Sh₆, γ₆, _, H₆⟩ := H₆
    have H₆' := H₆.mono (K' := fun g w => g = G ((base 5).at (Act.put ⟨T5, []⟩ ((opsNs11[0]?).bind (·.dst)) (.bool true)) (.inRegion opsNs11 [1, 2, 3, 4, 5, 6, 7, 8, 9, 10, 11, 12, 13, 14] :: .code .ret :: [])) [] ∧ (Keep W₅ w ∧ ShOk Sh₆ w)) (fun g w h => by
      obtain ⟨Wx, h1, h2, h3, h4⟩ := h
      exact ⟨h1, (keep_of h2).trans h3, h4⟩) (fun _ _ h => h)
    obtain ⟨W₆, ⟨kp6, sh6⟩, H₆⟩ := H₆'.anchor
    clear H₂ H₃ H₃' H₄ H₅ H₆'
    refine (H₆.mono (K' := fun g w => g = _ ∧ Kn Vn W₆ [] w) (fun g w h => ⟨h.1, h.2, by simp⟩) (fun _ _ h => h)).walk gone_stb (fun g w hK => ⟨40, by
      obtain ⟨rfl, hK⟩ := hK
      exact x_mid (mn := (0 == 0)) w hK T5 s1 s2 s3 s4 s5⟩) |>.bind fun m₇ T₇ H₇ => ?_
    obtain ⟨sb2, H₇⟩ := H₇.ex
    obtain ⟨lb, H₇⟩ := H₇.ex
    obtain ⟨T7, H₇⟩ := H₇.ex
    obtain ⟨⟨t1, t2, t3, t4, t5⟩, H₇⟩ := H₇.and
    obtain ⟨W₇, e7, H₇⟩ := H₇.anchor
    have kW47 : Keep W₄ W₇ := kp5.trans (kp6.trans (keep_of e7.1))
    have hb1 := (e7.2 (lb, Obj.cells #[.slice a9 S0.length c9, .slice (some ⟨sb2, 0, none⟩) 2 2] 38 (0, 0)) (by simp)).2
    have hb2 := (e7.2 (sb2, Obj.cells #[.string strX, .string strY] 9 (0, 0)) (by simp)).2
    simp only at hb1 hb2
    have sh7 := pre_ext sh6 e7.1
    -- the document's run of the outer lists
    obtain ⟨k8, c8⟩ := c_refrun (main := (0 == 0)) sh7 (al := some ⟨lb, 0, none⟩) (ap := ap) (us := [.slice a9 S0.length c9, .slice (some ⟨sb2, 0, none⟩) 2 2]) (L := Lo) (ps := P) 2 pcap (vrow_kp (kW24.trans kW47) vp2) (.inr ⟨lb, 0, rfl, fun k u hk => by
      match k with
      | 0 => simp at hk; subst hk; simp [World.cell?, hb1]
      | 1 => simp at hk; subst hk; simp [World.cell?, hb1]
      | k + 2 => simp at hk⟩) (by rw [hLo]; rfl) (fun k => by
      rw [hLo]
      match k with
      | 0 => exact ⟨a9, c9, rfl, nts_kp kW47 nt4⟩
      | 1 => exact ⟨some ⟨sb2, 0, none⟩, 2, rfl, .inr ⟨sb2, 0, rfl, fun k s hk => by
          match k with
          | 0 => simp [Sk] at hk; subst hk; simp [World.cell?, hb2]
          | 1 => simp [Sk] at hk; subst hk; simp [World.cell?, hb2]
          | k + 2 => simp [Sk] at hk⟩⟩
      | k + 2 => exact ⟨none, 0, rfl, .inl rfl⟩) (fun k => by have := hLob k; omega) (by rw [hLo]; simp) (by rw [hLo]; exact hPx) (by omega)
    rw [← hEE] at c8
    have hLl : Lo.length = 2 := by rw [hLo]; rfl
    rw [hLl] at c8
    refine (H₇.walk gone_stb fun g w hK => ⟨10 + k8 + 3 + 10, by
      obtain ⟨rfl, hK⟩ := hK
      exact x_ref (mn := (0 == 0)) (Q := fun w => Ext Vn W₇ w) (fun _ _ h r => h.trans r) (Rv := fun r w => ∃ a c, r = .slice a E.length c ∧ EvRow w a E) w hK T7 t1 t2 t3 t4 t5 (fun w hw => (c8 w hw).mono fun r w' h => ⟨h.1, own_evrow h.2⟩) (fun r w w' h e => by obtain ⟨a, c, h1, h2⟩ := h; exact ⟨a, c, h1, evrow_ext h2 e⟩)⟩).bind fun m₈ T₈ H₈ => ?_
    have H₈' := H₈.mono (K' := fun g w => ∃ a c T', (T'.size = 71 ∧ T'[62]? = some (.bool true) ∧ T'[63]? = some (.slice ao E.length co) ∧ T'[68]? = some (.slice a E.length c)) ∧ g = G (fNs T' (.inRegion opsNs11 [12, 13, 14] :: .code .ret :: [])) [] ∧ (Ext Vn W₇ w ∧ EvRow w a E)) (fun g w h => by
      obtain ⟨r, T', h1, h2, h3, a, c, rfl, h4⟩ := h
      exact ⟨a, c, T', h1, h2, h3, h4⟩) (fun _ _ h => h)
    obtain ⟨ar, H₉⟩ := H₈'.ex
    obtain ⟨cr, H₉⟩ := H₉.ex
    obtain ⟨T9, H₉⟩ := H₉.ex
    obtain ⟨⟨u1, u2, u3, u4⟩, H₉⟩ := H₉.and
    obtain ⟨W₈, ⟨e8, ev8⟩, H₉⟩ := H₉.anchor
    -- same
    obtain ⟨k6, c6⟩ := c_same (main := (0 == 0)) (pre_ext sh7 e8) co cr (evrow_kp ((kp6.trans (keep_of e7.1)).trans (keep_of e8)) ev5) ev8 (by omega)
    have kW8 : Keep W W₈ := kW4.trans (kW47.trans (keep_of e8))
    refine (H₉.walk gone_stb fun g w hK => ⟨10 + k6 + 3 + 20, by
      obtain ⟨rfl, hK⟩ := hK
      exact x_out (mn := (0 == 0)) (Q := fun w => Ext Vn W₈ w) (fun _ _ h r => h.trans r) w hK T9 u1 u2 u3 u4 (fun w hw => (c6 w hw).mono fun r w' h => ⟨by rw [h.1]; simp, h.2⟩)⟩).mono fun m' T' H => ⟨_, _, H.mono (fun g w h => by
        obtain ⟨T', k, h1, h2, h3⟩ := h
        exact ⟨T', k, h1, h2, kW8.ext h3⟩) (fun _ _ h => h)⟩
#print axioms law_nests
end
end Go.Proofs.Ytggfcdhkgldbfaa
