/-
  PARTS of a claim, merged by segs.py: CwLaw2.
-/
import Derived.Test.YtggfcdhkgldbfaaD39
import Derived.Test.YtggfcdhkgldbfaaD43
import Derived.Test.YtggfcdhkgldbfaaD29
import Derived.Test.YtggfcdhkgldbfaaD36
namespace Go.Proofs.Ytggfcdhkgldbfaa
set_option linter.unusedSimpArgs false
set_option linter.unusedVariables false

/-! ### CwLaw2 -/
section
set_option linter.unusedSimpArgs false
open Go Go.Conc Go.RowKit Go.ConcR.Gen Cw

theorem enter_law (v lv : Value) : Frame.enter Try.prog 3 #[v, lv] .normal = fLw #[v, lv, undef, undef, undef, undef, undef, undef, undef, undef, undef, undef, undef, undef, undef, undef, undef, undef, undef, undef, undef, undef, undef, undef, undef, undef, undef, undef, undef, undef, undef, undef, undef, undef, undef, undef] [.code bodyL] := by
  rw [enter_at (c := bodyL) _ Try.func3 (by simp [bodyL, Try.f3])]
  simp only [Try.ntmps3, List.size_toArray, List.length_cons, List.length_nil, Nat.reduceAdd, Nat.reduceSub, Nat.zero_add, Nat.sub_zero, Array.replicate_succ, Array.replicate_zero, List.push_toArray, List.append_toArray, List.nil_append, List.cons_append]
theorem fin_law {Sh : Loc → Prop} {T : Array Value} {k : List Item} {W w : World} (h4 : T[4]? = some (.bool true)) (h : Leaves W w) : AtFin Try.prog (Cx0 Sh) (fun r w' => r = .bool true ∧ Leaves W w') (G { fLw T k with mode := .returning } []) w := by
  refine ⟨rfl, fun d => ⟨.bool true, #[], ?_, by simp, rfl, ⟨h.keep.1, h.keep.2⟩, h.os, h.output⟩⟩
  simp [G, stepG, unwind, doReturn, results, Frame.at, base, Try.func3, Try.f3, seen, GStep.after, h4]
theorem valid_lt {p : List Nat} {n : Nat} : ∀ x ∈ validP p n, x < n := fun x hx => by
  unfold validP at hx
  split at hx
  · simp at hx
  · obtain ⟨y, _, rfl⟩ := List.mem_map.1 hx
    exact Nat.mod_lt _ (by omega)
theorem valid_len {p : List Nat} {n : Nat} : (validP p n).length ≤ p.length := by
  unfold validP
  split <;> simp
theorem few_of {np : Nat} {L : List (List ByteArray)} (h : fewB np L = true) : np ≤ 100 ∧ L.length ≤ 10 ∧ ∀ k, (Sk L k).length ≤ 20 := by
  simp only [fewB, Bool.and_eq_true, List.all_eq_true, decide_eq_true_eq] at h
  refine ⟨h.2.1, h.2.2, fun k => ?_⟩
  unfold Sk
  cases e : L[k]? with
  | none => simp
  | some S => exact h.1 S (List.mem_of_getElem? e)
theorem rsE_len {L : List (List ByteArray)} {s : List Nat × List (Int × ByteArray)} {t : Nat} : (refStep L s t).2.length ≤ s.2.length + 1 := by
  unfold refStep
  cases (Sk L t)[s.1.getD t 0]? <;> simp
theorem itrE_len {L : List (List ByteArray)} {t : Nat} : ∀ (n : Nat) (s : List Nat × List (Int × ByteArray)), (itr (fun s => refStep L s t) n s).2.length ≤ s.2.length + n
  | 0, s => by simp [itr]
  | n + 1, s => by
    have h1 := itrE_len (L := L) (t := t) n (refStep L s t)
    have h2 := rsE_len (L := L) (s := s) (t := t)
    simp only [itr]
    omega
theorem rdE_len {L : List (List ByteArray)} {s : List Nat × List (Int × ByteArray)} {t : Nat} (h : (Sk L t).length ≤ 20) : (refDrain L s t).2.length ≤ s.2.length + 20 := by
  have := itrE_len (L := L) (t := t) ((Sk L t).length - s.1.getD t 0) s
  unfold refDrain
  omega
theorem foldE_len {α : Type} {f : List Nat × List (Int × ByteArray) → α → List Nat × List (Int × ByteArray)} {c : Nat} (h : ∀ s t, (f s t).2.length ≤ s.2.length + c) : ∀ (l : List α) s, (l.foldl f s).2.length ≤ s.2.length + c * l.length
  | [], s => by simp
  | a :: l, s => by
    have h1 := foldE_len h l (f s a)
    have h2 := h s a
    simp only [List.foldl_cons, List.length_cons]
    have : c * (l.length + 1) = c * l.length + c := by rw [Nat.mul_add, Nat.mul_one]
    omega
theorem rrE_len {L : List (List ByteArray)} {ps : List Nat} (h1 : ps.length ≤ 100) (h2 : L.length ≤ 10) (h3 : ∀ k, (Sk L k).length ≤ 20) : (refRun L ps).length ≤ 300 := by
  have a := foldE_len (f := refStep L) (c := 1) (fun s t => rsE_len) ps (List.replicate L.length 0, [])
  have b := foldE_len (f := refDrain L) (c := 20) (fun s t => rdE_len (h3 t)) (List.range L.length) (ps.foldl (refStep L) (List.replicate L.length 0, []))
  simp only [List.length_nil, List.length_range] at a b
  unfold refRun
  omega
theorem keep_leaves [R0 : Ref] {w : World} (h : Keep R0.w w) (i : Outs w) : Leaves R0.w w := ⟨h, i.1, i.2⟩

set_option maxHeartbeats 4000000 in
theorem law_runs (W : World) {v lv : Value} {p : List Nat} {L : List (List ByteArray)} (hp : U8Row W v p) (hl : StrRows W lv L) (hpl : p.length ≤ 17179869184) (hx : ∀ x ∈ p, x < 256) (hn : L.length < 9223372036854775807) (hln : ∀ S ∈ L, S.length < 9223372036854775807) :
    ∃ M last o w' t', runNT Try.prog (M + 1) (solo (G (Frame.enter Try.prog 3 #[v, lv] .normal) []) W) #[] = (.ended o w', t') ∧ runN Try.prog M (solo (G (Frame.enter Try.prog 3 #[v, lv] .normal) []) W) = .next last ∧
      step Try.prog last = .ended o w' ∧ Go.Conc.Good Try.prog (fun r w' => r = .bool true ∧ Leaves W w') last o w' t' := by
  letI : Ref := ⟨W⟩
  obtain ⟨al, lcap, us, rfl, hul, hus, huS, huk⟩ := rows_us hl
  rw [enter_law]
  have H₀ := held_init Try.prog (G (fLw #[v, .slice al L.length lcap, undef, undef, undef, undef, undef, undef, undef, undef, undef, undef, undef, undef, undef, undef, undef, undef, undef, undef, undef, undef, undef, undef, undef, undef, undef, undef, undef, undef, undef, undef, undef, undef, undef, undef] [.code bodyL]) [])
  change Held Try.prog (Cx0 fun _ => False) Vn 0 0 1 Gone (fun g w => _ ∧ Ext Vn W w) _ _ at H₀
  have hS0 : ∀ w, ShOk (fun _ => False) w := fun w a h => h.elim
  refine Held.finish (K := fun g w => ∃ T' k, T'[4]? = some (.bool true) ∧ g = G { fLw T' k with mode := .returning } [] ∧ Keep W w) ?_ (fun Sh g w hK hi d => by
    obtain ⟨T', k, h4, rfl, hk⟩ := hK
    exact fin_law (w := w.at d) h4 ⟨⟨hk.1, hk.2⟩, hi.1, hi.2⟩)
  obtain ⟨P, hP⟩ : ∃ P, P = validP p L.length := ⟨_, rfl⟩
  have hPl : P.length ≤ p.length := by rw [hP]; exact valid_len
  have hPx : ∀ x ∈ P, x < L.length := by rw [hP]; exact valid_lt
  -- valid
  obtain ⟨k1, c1⟩ := c_valid (main := (0 == 0)) (hS0 W) hp L.length hpl hn hx
  rw [← hP] at c1
  refine (H₀.walk gone_stb fun g w hK => ⟨10 + k1 + 3 + 20, by
    obtain ⟨rfl, hK⟩ := hK
    exact l_valid (mn := (0 == 0)) (Q := fun w => Ext Vn W w) (fun _ _ h r => h.trans r) (Rv := fun r w => ∃ a c, r = .slice a P.length c ∧ VRow w a (ints P)) w hK (fun w hw => (c1 w hw).mono fun r w' h => ⟨h.1, by
      obtain ⟨a, c, h1, h2, h3⟩ := own_vrow h.2
      exact ⟨a, c, by rw [h1, h3], h2⟩⟩) (fun r w w' h e => by obtain ⟨a, c, h1, h2⟩ := h; exact ⟨a, c, h1, vrow_ext h2 e⟩)⟩).bind fun m₁ T₁ H₁ => ?_
  have H₁' := H₁.mono (K' := fun g w => ∃ a c T', (T'.size = 36 ∧ T'[1]? = some (.slice al L.length lcap) ∧ T'[11]? = some (.slice a P.length c)) ∧ g = G (fLw T' (.inRegion opsL1 [4] :: .code (rt (rt bodyL)) :: [])) [] ∧ (Ext Vn W w ∧ VRow w a (ints P))) (fun g w h => by
    obtain ⟨r, T', h1, h2, h3, a, c, rfl, h4⟩ := h
    exact ⟨a, c, T', h1, h2, h3, h4⟩) (fun _ _ h => h)
  obtain ⟨ap, H₂⟩ := H₁'.ex
  obtain ⟨pcap, H₂⟩ := H₂.ex
  obtain ⟨T2, H₂⟩ := H₂.ex
  obtain ⟨⟨a1, a2, a3⟩, H₂⟩ := H₂.and
  obtain ⟨W₁, ⟨e1, vp⟩, H₂⟩ := H₂.anchor
  clear H₀ H₁ H₁' c1
  have kW1 := keep_of e1
  -- few
  obtain ⟨k2, c2⟩ := c_few (main := (0 == 0)) (hS0 W₁) ap P.length pcap (strrows_kp kW1 hl) hn hln (by omega)
  refine (H₂.walk gone_stb fun g w hK => ⟨10 + k2 + 3 + 20, by
    obtain ⟨rfl, hK⟩ := hK
    exact l_few (mn := (0 == 0)) (Q := fun w => Ext Vn W₁ w) (fun _ _ h r => h.trans r) w hK T2 a1 a2 a3 c2⟩).bind fun m₃ T₃ H₃ => ?_
  obtain ⟨T3, H₃⟩ := H₃.ex
  obtain ⟨⟨b1, b2, b3, b4⟩, H₃⟩ := H₃.and
  clear H₂ c2
  cases hfew : fewB P.length L with
  | false =>
    rw [hfew] at b4
    refine (H₃.walk gone_stb fun g w hK => ⟨20, by
      obtain ⟨rfl, hK⟩ := hK
      exact l_no (mn := (0 == 0)) (al := al) (n := 0) (lcap := 0) (Q := fun w => Ext Vn W₁ w) (fun _ _ h r => h.trans r) w hK T3 b1 b4⟩).bind fun m₄ T₄ H₄ => ?_
    obtain ⟨T4, H₄⟩ := H₄.ex
    obtain ⟨d1, H₄⟩ := H₄.and
    refine (awake_call (Q := fun w => Ext Vn W₁ w) (Nat.le_refl 1) (b₀ := base 3) (a₀ := ⟨T4, []⟩) (ops := opsL3) (j := 0) (rest := [1]) (kk := .code .ret :: .code restL :: []) (cs := []) (H₄.mono (fun g w h => ⟨h.1, hS0 w, h.2⟩) (fun _ _ h => h))).bind fun m₅ T₅ H₅ => ?_
    obtain ⟨Sh₅, H₅⟩ := H₅
    have H₅' := H₅.mono (K' := fun g w => g = G ((base 3).at (Act.put ⟨T4, []⟩ ((opsL3[0]?).bind (·.dst)) (.bool true)) (.inRegion opsL3 [1] :: .code .ret :: .code restL :: [])) [] ∧ Keep W w) (fun g w h => by
      obtain ⟨Wx, h1, h2, h3, h4⟩ := h
      exact ⟨h1, kW1.trans ((keep_of h2).trans h3)⟩) (fun _ _ h => h)
    refine (H₅'.walk gone_stb fun g w hK => ⟨10, by
      obtain ⟨rfl, hK⟩ := hK
      exact l_out0 (mn := (0 == 0)) (Q := fun w => Keep W w) (fun _ _ h r => h.ext r) w hK T4 d1⟩).mono fun m' T' H => ⟨_, _, H⟩
  | true =>
    rw [hfew] at b4
    obtain ⟨f1, f2, f3⟩ := few_of hfew
    have hus1 := vrow_kp kW1 hus
    have huk1 : ∀ k, ∃ a c, slK us k = .slice a (Sk L k).length c ∧ Nts a (Sk L k) W₁ := fun k => by
      obtain ⟨a, c, h1, h2⟩ := huk k
      exact ⟨a, c, h1, nts_kp kW1 h2⟩
    -- tasks, and into sched.Run
    obtain ⟨k3, c3⟩ := c_tasks (main := (0 == 0)) (hS0 W₁) lcap hus1 (by omega) huS
    rw [hul] at c3
    refine (H₃.walk gone_stb fun g w hK => ⟨10 + k3 + 3 + 20, by
      obtain ⟨rfl, hK⟩ := hK
      exact l_yes (mn := (0 == 0)) (Q := fun w => Ext Vn W₁ w) (fun _ _ h r => h.trans r) (Rv := fun r w => ∃ a c, r = .slice a us.length c ∧ VRow w a (ifs us)) w hK T3 b1 b2 b3 b4 (fun w hw => (c3 w hw).mono fun r w' h => ⟨h.1, by
        obtain ⟨a, c, h1, h2, h3⟩ := own_vrow h.2
        exact ⟨a, c, by rw [h1]; simp [ifs], h2⟩⟩) (fun r w w' h e => by obtain ⟨a, c, h1, h2⟩ := h; exact ⟨a, c, h1, vrow_ext h2 e⟩)⟩).bind fun m₄ T₄ H₄ => ?_
    have H₄' := H₄.mono (K' := fun g w => ∃ a c T', (T'.size = 36 ∧ T'[1]? = some (.slice al L.length lcap) ∧ T'[5]? = some (.slice ap P.length pcap)) ∧ (g = G (fRun (entryT (.slice ap P.length pcap) (.slice a us.length c)) [.code bodyM]) ((base 3).at ⟨T', []⟩ (.inRegion opsL4 (3 :: [4, 5, 6, 7, 8]) :: .code (rt restL) :: []) :: []) ∧ Pre (fun _ => False) a ap us L P w ∧ Ext Vn W₁ w)) (fun g w h => by
      obtain ⟨r, T', h1, h2, h3, a, c, rfl, h4⟩ := h
      exact ⟨a, c, T', h1, h2, ⟨hS0 w, h4, vrow_kp (keep_of h3) vp, fun k => by
        obtain ⟨a, c, h1, h2⟩ := huk1 k
        exact ⟨a, c, h1, nts_kp (keep_of h3) h2⟩⟩, h3⟩) (fun _ _ h => h)
    obtain ⟨at_, H₄⟩ := H₄'.ex
    obtain ⟨tc, H₄⟩ := H₄.ex
    obtain ⟨T4, H₄⟩ := H₄.ex
    obtain ⟨⟨d1, d2, d3⟩, H₄⟩ := H₄.and
    clear H₃ c3
    refine (run_notes (Q := fun w => Ext Vn W₁ w) (Nat.le_refl 1) (by omega) (by omega) (fun i hi => by rw [hul]; exact hPx i hi) huS (fun k => by have := f3 k; omega) H₄).bind fun m₅ T₅ H₅ => ?_
    obtain ⟨Sh₅, H₅⟩ := H₅
    have hE : ∀ Wx, ((notesT Wx us L).fin () us.length P).E = refRun L P := fun Wx => fin_ref (n := us.length) hul.symm (fun k hk => by rw [hul]; exact hPx k hk)
    obtain ⟨E, hEE⟩ : ∃ E, E = refRun L P := ⟨_, rfl⟩
    have H₅' := H₅.mono (K' := fun g w => ∃ a c, g = G ((base 3).at (Act.put ⟨T4, []⟩ ((opsL4[3]?).bind (·.dst)) (.tuple #[.slice a E.length c, .int .i64 0])) (.inRegion opsL4 [4, 5, 6, 7, 8] :: .code (rt restL) :: [])) [] ∧ (EvRow w a E ∧ Keep W₁ w ∧ ShOk Sh₅ w)) (fun g w h => by
      obtain ⟨Wx, u, rfl, _, hkW, hk, hsh, hrow⟩ := h
      rw [hE, ← hEE] at hrow
      obtain ⟨a, c, rfl, h2⟩ := own_evrow hrow
      exact ⟨a, c, rfl, h2, (keep_of hkW).trans hk, hsh⟩) (fun _ _ h => h)
    obtain ⟨ae, H₆⟩ := H₅'.ex
    obtain ⟨ce, H₆⟩ := H₆.ex
    obtain ⟨W₂, ⟨ev2, kp2, sh2⟩, H₆⟩ := H₆.anchor
    refine (H₆.walk gone_stb fun g w hK => ⟨20, by
      obtain ⟨rfl, hK⟩ := hK
      exact l_mid (mn := (0 == 0)) (Q := fun w => Ext Vn W₂ w) (fun _ _ h r => h.trans r) w hK T4 d1 d2 d3⟩).bind fun m₇ T₇ H₇ => ?_
    obtain ⟨T7, H₇⟩ := H₇.ex
    obtain ⟨⟨g1, g2, g3, g4, g5⟩, H₇⟩ := H₇.and
    -- awake
    refine (awake_call (Q := fun w => Ext Vn W₂ w) (by omega) (b₀ := base 3) (a₀ := ⟨T7, []⟩) (ops := opsL5) (j := 0) (rest := [1, 2, 3, 4, 5, 6, 7, 8, 9, 10, 11, 12]) (kk := .code .ret :: []) (cs := []) (H₇.mono (fun g w h => ⟨h.1, pre_ext sh2 h.2, h.2⟩) (fun _ _ h => h))).bind fun m₈ T₈ H₈ => ?_
    obtain ⟨Sh₈, H₈⟩ := H₈
    have H₈' := H₈.mono (K' := fun g w => g = G ((base 3).at (Act.put ⟨T7, []⟩ ((opsL5[0]?).bind (·.dst)) (.bool true)) (.inRegion opsL5 [1, 2, 3, 4, 5, 6, 7, 8, 9, 10, 11, 12] :: .code .ret :: [])) [] ∧ (Keep W₂ w ∧ ShOk Sh₈ w)) (fun g w h => by
      obtain ⟨Wx, h1, h2, h3, h4⟩ := h
      exact ⟨h1, (keep_of h2).trans h3, h4⟩) (fun _ _ h => h)
    obtain ⟨W₃, ⟨kp3, sh3⟩, H₈⟩ := H₈'.anchor
    have k13 := kp2.trans kp3
    -- ref.Run
    obtain ⟨k5, c5⟩ := c_refrun (main := (0 == 0)) sh3 lcap pcap (vrow_kp k13 vp) (vrow_kp k13 hus1) hul (fun k => by
      obtain ⟨a, c, h1, h2⟩ := huk1 k
      exact ⟨a, c, h1, nts_kp k13 h2⟩) (fun k => by have := f3 k; omega) (by omega) hPx (by omega)
    rw [← hEE] at c5
    refine (H₈.walk gone_stb fun g w hK => ⟨10 + k5 + 3 + 20, by
      obtain ⟨rfl, hK⟩ := hK
      exact l_ref (mn := (0 == 0)) (Q := fun w => Ext Vn W₃ w) (fun _ _ h r => h.trans r) (Rv := fun r w => ∃ a c, r = .slice a E.length c ∧ EvRow w a E) w hK T7 g1 g2 g3 g4 g5 (fun w hw => (c5 w hw).mono fun r w' h => ⟨h.1, own_evrow h.2⟩) (fun r w w' h e => by obtain ⟨a, c, h1, h2⟩ := h; exact ⟨a, c, h1, evrow_ext h2 e⟩)⟩).bind fun m₉ T₉ H₉ => ?_
    have H₉' := H₉.mono (K' := fun g w => ∃ a c T', (T'.size = 36 ∧ T'[29]? = some (.bool true) ∧ T'[30]? = some (.slice ae E.length ce) ∧ T'[33]? = some (.slice a E.length c)) ∧ g = G (fLw T' (.inRegion opsL5 [10, 11, 12] :: .code .ret :: [])) [] ∧ (Ext Vn W₃ w ∧ EvRow w a E)) (fun g w h => by
      obtain ⟨r, T', h1, h2, h3, a, c, rfl, h4⟩ := h
      exact ⟨a, c, T', h1, h2, h3, h4⟩) (fun _ _ h => h)
    obtain ⟨ar, H₉⟩ := H₉'.ex
    obtain ⟨cr, H₉⟩ := H₉.ex
    obtain ⟨T9, H₉⟩ := H₉.ex
    obtain ⟨⟨i1, i2, i3, i4⟩, H₉⟩ := H₉.and
    obtain ⟨W₄, ⟨e4, ev4⟩, H₉⟩ := H₉.anchor
    -- same
    obtain ⟨k6, c6⟩ := c_same (main := (0 == 0)) (pre_ext sh3 e4) ce cr (evrow_kp (kp3.trans (keep_of e4)) ev2) ev4 (by rw [hEE]; have := rrE_len f1 f2 f3; omega)
    have kW4 : Keep W W₄ := kW1.trans (k13.trans (keep_of e4))
    refine (H₉.walk gone_stb fun g w hK => ⟨10 + k6 + 3, by
      obtain ⟨rfl, hK⟩ := hK
      exact l_out (mn := (0 == 0)) (b := true) (Q := fun w => Ext Vn W₄ w) (fun _ _ h r => h.trans r) w hK T9 i1 i2 i3 i4 (fun w hw => (c6 w hw).mono fun r w' h => ⟨by rw [h.1]; simp, h.2⟩)⟩).mono fun m' T' H => ⟨_, _, H.mono (fun g w h => by
        obtain ⟨T', k, h1, h2, h3⟩ := h
        exact ⟨T', k, h1, h2, kW4.ext h3⟩) (fun _ _ h => h)⟩
#print axioms law_runs
end
end Go.Proofs.Ytggfcdhkgldbfaa
