/-
  PARTS of a claim, merged by segs.py: CwLaw2, CwOpen, CwHold.
-/
import Derived.Test.YtggfcdhkgldbfaaC28
import Derived.Test.YtggfcdhkgldbfaaC32
import Derived.Test.YtggfcdhkgldbfaaC33
import Derived.Test.YtggfcdhkgldbfaaC23
import Derived.Test.YtggfcdhkgldbfaaC25
import Derived.Test.YtggfcdhkgldbfaaRows
import Derived.ProofKit
import Derived.OpenShut
import Derived.WideKeyArgs
import Derived.ChangeArms
import Derived.Conc.LeavingOf
import Derived.JoinedCond
namespace Go.Proofs.Ytggfcdhkgldbfaa
set_option linter.unusedSimpArgs false
set_option linter.unusedVariables false

/-! ### CwLaw2 -/
section
set_option linter.unusedSimpArgs false
open Go Go.Conc Go.RowKit Go.ConcR.Gen Cw

theorem enter_law (v lv : Value) : Frame.enter Try.prog 3 #[v, lv] .normal = fLw #[v, lv, undef, undef, undef, undef, undef, undef, undef, undef, undef, undef, undef, undef, undef, undef, undef, undef, undef, undef, undef, undef, undef, undef, undef, undef, undef, undef, undef, undef, undef, undef, undef, undef, undef, undef] [.code bodyL] := by
  rw [enter_at (c := bodyL) _ Try.func3 (by simp [bodyL, Try.f3])]
  simp only [Try.ntmps3, List.size_toArray, List.length_cons, List.length_nil, Nat.reduceAdd, Nat.reduceSub, Nat.zero_add, Nat.sub_zero, Array.replicate_succ, Array.replicate_zero, List.push_toArray, List.append_toArray, List.nil_append, List.cons_append]
theorem fin_law {Sh : Loc → Prop} {T : Array Value} {k : List Item} {W w : World} (h4 : T[4]? = some (.bool true)) (h : Leaves W w) : AtFin Try.prog (Cx0 Sh) (fun r w' => r = .bool true ∧ Leaves W w') (G { fLw T k with mode := .returning } []) w := by
  refine ⟨rfl, fun d => ⟨.bool true, #[], ?_, by simp, rfl, ⟨h.keep.1, h.keep.2⟩, h.os, h.output⟩⟩
  simp [G, stepG, unwind, doReturn, results, Frame.at, base, Try.func3, Try.f3, seen, GStep.after, h4]
theorem valid_lt {p : List Nat} {n : Nat} : ∀ x ∈ validP p n, x < n := fun x hx => by
  unfold validP at hx
  split at hx
  · simp at hx
  · obtain ⟨y, _, rfl⟩ := List.mem_map.1 hx
    exact Nat.mod_lt _ (by omega)
theorem valid_len {p : List Nat} {n : Nat} : (validP p n).length ≤ p.length := by
  unfold validP
  split <;> simp
theorem few_of {np : Nat} {L : List (List ByteArray)} (h : fewB np L = true) : np ≤ 100 ∧ L.length ≤ 10 ∧ ∀ k, (Sk L k).length ≤ 20 := by
  simp only [fewB, Bool.and_eq_true, List.all_eq_true, decide_eq_true_eq] at h
  refine ⟨h.2.1, h.2.2, fun k => ?_⟩
  unfold Sk
  cases e : L[k]? with
  | none => simp
  | some S => exact h.1 S (List.mem_of_getElem? e)
theorem rsE_len {L : List (List ByteArray)} {s : List Nat × List (Int × ByteArray)} {t : Nat} : (refStep L s t).2.length ≤ s.2.length + 1 := by
  unfold refStep
  cases (Sk L t)[s.1.getD t 0]? <;> simp
theorem itrE_len {L : List (List ByteArray)} {t : Nat} : ∀ (n : Nat) (s : List Nat × List (Int × ByteArray)), (itr (fun s => refStep L s t) n s).2.length ≤ s.2.length + n
  | 0, s => by simp [itr]
  | n + 1, s => by
    have h1 := itrE_len (L := L) (t := t) n (refStep L s t)
    have h2 := rsE_len (L := L) (s := s) (t := t)
    simp only [itr]
    omega
theorem rdE_len {L : List (List ByteArray)} {s : List Nat × List (Int × ByteArray)} {t : Nat} (h : (Sk L t).length ≤ 20) : (refDrain L s t).2.length ≤ s.2.length + 20 := by
  have := itrE_len (L := L) (t := t) ((Sk L t).length - s.1.getD t 0) s
  unfold refDrain
  omega
theorem foldE_len {α : Type} {f : List Nat × List (Int × ByteArray) → α → List Nat × List (Int × ByteArray)} {c : Nat} (h : ∀ s t, (f s t).2.length ≤ s.2.length + c) : ∀ (l : List α) s, (l.foldl f s).2.length ≤ s.2.length + c * l.length
  | [], s => by simp
  | a :: l, s => by
    have h1 := foldE_len h l (f s a)
    have h2 := h s a
    simp only [List.foldl_cons, List.length_cons]
    have : c * (l.length + 1) = c * l.length + c := by rw [Nat.mul_add, Nat.mul_one]
    omega
theorem rrE_len {L : List (List ByteArray)} {ps : List Nat} (h1 : ps.length ≤ 100) (h2 : L.length ≤ 10) (h3 : ∀ k, (Sk L k).length ≤ 20) : (refRun L ps).length ≤ 300 := by
  have a := foldE_len (f := refStep L) (c := 1) (fun s t => rsE_len) ps (List.replicate L.length 0, [])
  have b := foldE_len (f := refDrain L) (c := 20) (fun s t => rdE_len (h3 t)) (List.range L.length) (ps.foldl (refStep L) (List.replicate L.length 0, []))
  simp only [List.length_nil, List.length_range] at a b
  unfold refRun
  omega
theorem keep_leaves [R0 : Ref] {w : World} (h : Keep R0.w w) (i : Outs w) : Leaves R0.w w := ⟨h, i.1, i.2⟩

set_option maxHeartbeats 4000000 in
theorem law_runs (W : World) {v lv : Value} {p : List Nat} {L : List (List ByteArray)} (hp : U8Row W v p) (hl : StrRows W lv L) (hpl : p.length ≤ 17179869184) (hx : ∀ x ∈ p, x < 256) (hn : L.length < 9223372036854775807) (hln : ∀ S ∈ L, S.length < 9223372036854775807) :
    ∃ M last o w' t', runNT Try.prog (M + 1) (solo (G (Frame.enter Try.prog 3 #[v, lv] .normal) []) W) #[] = (.ended o w', t') ∧ runN Try.prog M (solo (G (Frame.enter Try.prog 3 #[v, lv] .normal) []) W) = .next last ∧
      step Try.prog last = .ended o w' ∧ Go.Conc.Good Try.prog (fun r w' => r = .bool true ∧ Leaves W w') last o w' t' := by
  letI : Ref := ⟨W⟩
  obtain ⟨al, lcap, us, rfl, hul, hus, huS, huk⟩ := rows_us hl
  rw [enter_law]
  have H₀ := held_init Try.prog (G (fLw #[v, .slice al L.length lcap, undef, undef, undef, undef, undef, undef, undef, undef, undef, undef, undef, undef, undef, undef, undef, undef, undef, undef, undef, undef, undef, undef, undef, undef, undef, undef, undef, undef, undef, undef, undef, undef, undef, undef] [.code bodyL]) [])
  change Held Try.prog (Cx0 fun _ => False) Vn 0 0 1 Gone (fun g w => _ ∧ Ext Vn W w) _ _ at H₀
  have hS0 : ∀ w, ShOk (fun _ => False) w := fun w a h => h.elim
  refine Held.finish (K := fun g w => ∃ T' k, T'[4]? = some (.bool true) ∧ g = G { fLw T' k with mode := .returning } [] ∧ Keep W w) ?_ (fun Sh g w hK hi d => by
    obtain ⟨T', k, h4, rfl, hk⟩ := hK
    exact fin_law (w := w.at d) h4 ⟨⟨hk.1, hk.2⟩, hi.1, hi.2⟩)
  obtain ⟨P, hP⟩ : ∃ P, P = validP p L.length := ⟨_, rfl⟩
  have hPl : P.length ≤ p.length := by rw [hP]; exact valid_len
  have hPx : ∀ x ∈ P, x < L.length := by rw [hP]; exact valid_lt
  -- valid
  obtain ⟨k1, c1⟩ := c_valid (main := (0 == 0)) (hS0 W) hp L.length hpl hn hx
  rw [← hP] at c1
  refine (H₀.walk gone_stb fun g w hK => ⟨10 + k1 + 3 + 20, by
    obtain ⟨rfl, hK⟩ := hK
    exact l_valid (mn := (0 == 0)) (Q := fun w => Ext Vn W w) (fun _ _ h r => h.trans r) (Rv := fun r w => ∃ a c, r = .slice a P.length c ∧ VRow w a (ints P)) w hK (fun w hw => (c1 w hw).mono fun r w' h => ⟨h.1, by
      obtain ⟨a, c, h1, h2, h3⟩ := own_vrow h.2
      exact ⟨a, c, by rw [h1, h3], h2⟩⟩) (fun r w w' h e => by obtain ⟨a, c, h1, h2⟩ := h; exact ⟨a, c, h1, vrow_ext h2 e⟩)⟩).bind fun m₁ T₁ H₁ => ?_
  have H₁' := H₁.mono (K' := fun g w => ∃ a c T', (T'.size = 36 ∧ T'[1]? = some (.slice al L.length lcap) ∧ T'[11]? = some (.slice a P.length c)) ∧ g = G (fLw T' (.inRegion opsL1 [4] :: .code (rt (rt bodyL)) :: [])) [] ∧ (Ext Vn W w ∧ VRow w a (ints P))) (fun g w h => by
    obtain ⟨r, T', h1, h2, h3, a, c, rfl, h4⟩ := h
    exact ⟨a, c, T', h1, h2, h3, h4⟩) (fun _ _ h => h)
  obtain ⟨ap, H₂⟩ := H₁'.ex
  obtain ⟨pcap, H₂⟩ := H₂.ex
  obtain ⟨T2, H₂⟩ := H₂.ex
  obtain ⟨⟨a1, a2, a3⟩, H₂⟩ := H₂.and
  obtain ⟨W₁, ⟨e1, vp⟩, H₂⟩ := H₂.anchor
  clear H₀ H₁ H₁' c1
  have kW1 := keep_of e1
  -- few
  obtain ⟨k2, c2⟩ := c_few (main := (0 == 0)) (hS0 W₁) ap P.length pcap (strrows_kp kW1 hl) hn hln (by omega)
  refine (H₂.walk gone_stb fun g w hK => ⟨10 + k2 + 3 + 20, by
    obtain ⟨rfl, hK⟩ := hK
    exact l_few (mn := (0 == 0)) (Q := fun w => Ext Vn W₁ w) (fun _ _ h r => h.trans r) w hK T2 a1 a2 a3 c2⟩).bind fun m₃ T₃ H₃ => ?_
  obtain ⟨T3, H₃⟩ := H₃.ex
  obtain ⟨⟨b1, b2, b3, b4⟩, H₃⟩ := H₃.and
  clear H₂ c2
  cases hfew : fewB P.length L with
  | false =>
    rw [hfew] at b4
    refine (H₃.walk gone_stb fun g w hK => ⟨20, by
      obtain ⟨rfl, hK⟩ := hK
      exact l_no (mn := (0 == 0)) (al := al) (n := 0) (lcap := 0) (Q := fun w => Ext Vn W₁ w) (fun _ _ h r => h.trans r) w hK T3 b1 b4⟩).bind fun m₄ T₄ H₄ => ?_
    obtain ⟨T4, H₄⟩ := H₄.ex
    obtain ⟨d1, H₄⟩ := H₄.and
    refine (awake_call (Q := fun w => Ext Vn W₁ w) (Nat.le_refl 1) (b₀ := base 3) (a₀ := ⟨T4, []⟩) (ops := opsL3) (j := 0) (rest := [1]) (kk := .code .ret :: .code restL :: []) (cs := []) (H₄.mono (fun g w h => ⟨h.1, hS0 w, h.2⟩) (fun _ _ h => h))).bind fun m₅ T₅ H₅ => ?_
    obtain ⟨Sh₅, H₅⟩ := H₅
    have H₅' := H₅.mono (K' := fun g w => g = G ((base 3).at (Act.put ⟨T4, []⟩ ((opsL3[0]?).bind (·.dst)) (.bool true)) (.inRegion opsL3 [1] :: .code .ret :: .code restL :: [])) [] ∧ Keep W w) (fun g w h => by
      obtain ⟨Wx, h1, h2, h3, h4⟩ := h
      exact ⟨h1, kW1.trans ((keep_of h2).trans h3)⟩) (fun _ _ h => h)
    refine (H₅'.walk gone_stb fun g w hK => ⟨10, by
      obtain ⟨rfl, hK⟩ := hK
      exact l_out0 (mn := (0 == 0)) (Q := fun w => Keep W w) (fun _ _ h r => h.ext r) w hK T4 d1⟩).mono fun m' T' H => ⟨_, _, H⟩
  | true =>
    rw [hfew] at b4
    obtain ⟨f1, f2, f3⟩ := few_of hfew
    have hus1 := vrow_kp kW1 hus
    have huk1 : ∀ k, ∃ a c, slK us k = .slice a (Sk L k).length c ∧ Nts a (Sk L k) W₁ := fun k => by
      obtain ⟨a, c, h1, h2⟩ := huk k
      exact ⟨a, c, h1, nts_kp kW1 h2⟩
    -- tasks, and into sched.Run
    obtain ⟨k3, c3⟩ := c_tasks (main := (0 == 0)) (hS0 W₁) lcap hus1 (by omega) huS
    rw [hul] at c3
    refine (H₃.walk gone_stb fun g w hK => ⟨10 + k3 + 3 + 20, by
      obtain ⟨rfl, hK⟩ := hK
      exact l_yes (mn := (0 == 0)) (Q := fun w => Ext Vn W₁ w) (fun _ _ h r => h.trans r) (Rv := fun r w => ∃ a c, r = .slice a us.length c ∧ VRow w a (ifs us)) w hK T3 b1 b2 b3 b4 (fun w hw => (c3 w hw).mono fun r w' h => ⟨h.1, by
        obtain ⟨a, c, h1, h2, h3⟩ := own_vrow h.2
        exact ⟨a, c, by rw [h1]; simp [ifs], h2⟩⟩) (fun r w w' h e => by obtain ⟨a, c, h1, h2⟩ := h; exact ⟨a, c, h1, vrow_ext h2 e⟩)⟩).bind fun m₄ T₄ H₄ => ?_
    have H₄' := H₄.mono (K' := fun g w => ∃ a c T', (T'.size = 36 ∧ T'[1]? = some (.slice al L.length lcap) ∧ T'[5]? = some (.slice ap P.length pcap)) ∧ (g = G (fRun (entryT (.slice ap P.length pcap) (.slice a us.length c)) [.code bodyM]) ((base 3).at ⟨T', []⟩ (.inRegion opsL4 (3 :: [4, 5, 6, 7, 8]) :: .code (rt restL) :: []) :: []) ∧ Pre (fun _ => False) a ap us L P w ∧ Ext Vn W₁ w)) (fun g w h => by
      obtain ⟨r, T', h1, h2, h3, a, c, rfl, h4⟩ := h
      exact ⟨a, c, T', h1, h2, ⟨hS0 w, h4, vrow_kp (keep_of h3) vp, fun k => by
        obtain ⟨a, c, h1, h2⟩ := huk1 k
        exact ⟨a, c, h1, nts_kp (keep_of h3) h2⟩⟩, h3⟩) (fun _ _ h => h)
    obtain ⟨at_, H₄⟩ := H₄'.ex
    obtain ⟨tc, H₄⟩ := H₄.ex
    obtain ⟨T4, H₄⟩ := H₄.ex
    obtain ⟨⟨d1, d2, d3⟩, H₄⟩ := H₄.and
    clear H₃ c3
    refine (run_notes (Q := fun w => Ext Vn W₁ w) (Nat.le_refl 1) (by omega) (by omega) (fun i hi => by rw [hul]; exact hPx i hi) huS (fun k => by have := f3 k; omega) H₄).bind fun m₅ T₅ H₅ => ?_
    obtain ⟨Sh₅, H₅⟩ := H₅
    have hE : ∀ Wx, ((notesT Wx us L).fin () us.length P).E = refRun L P := fun Wx => fin_ref (n := us.length) hul.symm (fun k hk => by rw [hul]; exact hPx k hk)
    obtain ⟨E, hEE⟩ : ∃ E, E = refRun L P := ⟨_, rfl⟩
    have H₅' := H₅.mono (K' := fun g w => ∃ a c, g = G ((base 3).at (Act.put ⟨T4, []⟩ ((opsL4[3]?).bind (·.dst)) (.tuple #[.slice a E.length c, .int .i64 0])) (.inRegion opsL4 [4, 5, 6, 7, 8] :: .code (rt restL) :: [])) [] ∧ (EvRow w a E ∧ Keep W₁ w ∧ ShOk Sh₅ w)) (fun g w h => by
      obtain ⟨Wx, u, rfl, _, hkW, hk, hsh, hrow⟩ := h
      rw [hE, ← hEE] at hrow
      obtain ⟨a, c, rfl, h2⟩ := own_evrow hrow
      exact ⟨a, c, rfl, h2, (keep_of hkW).trans hk, hsh⟩) (fun _ _ h => h)
    obtain ⟨ae, H₆⟩ := H₅'.ex
    obtain ⟨ce, H₆⟩ := H₆.ex
    obtain ⟨W₂, ⟨ev2, kp2, sh2⟩, H₆⟩ := H₆.anchor
    refine (H₆.walk gone_stb fun g w hK => ⟨20, by
      obtain ⟨rfl, hK⟩ := hK
      exact l_mid (mn := (0 == 0)) (Q := fun w => Ext Vn W₂ w) (fun _ _ h r => h.trans r) w hK T4 d1 d2 d3⟩).bind fun m₇ T₇ H₇ => ?_
    obtain ⟨T7, H₇⟩ := H₇.ex
    obtain ⟨⟨g1, g2, g3, g4, g5⟩, H₇⟩ := H₇.and
    -- awake
    refine (awake_call (Q := fun w => Ext Vn W₂ w) (by omega) (b₀ := base 3) (a₀ := ⟨T7, []⟩) (ops := opsL5) (j := 0) (rest := [1, 2, 3, 4, 5, 6, 7, 8, 9, 10, 11, 12]) (kk := .code .ret :: []) (cs := []) (H₇.mono (fun g w h => ⟨h.1, pre_ext sh2 h.2, h.2⟩) (fun _ _ h => h))).bind fun m₈ T₈ H₈ => ?_
    obtain ⟨Sh₈, H₈⟩ := H₈
    have H₈' := H₈.mono (K' := fun g w => g = G ((base 3).at (Act.put ⟨T7, []⟩ ((opsL5[0]?).bind (·.dst)) (.bool true)) (.inRegion opsL5 [1, 2, 3, 4, 5, 6, 7, 8, 9, 10, 11, 12] :: .code .ret :: [])) [] ∧ (Keep W₂ w ∧ ShOk Sh₈ w)) (fun g w h => by
      obtain ⟨Wx, h1, h2, h3, h4⟩ := h
      exact ⟨h1, (keep_of h2).trans h3, h4⟩) (fun _ _ h => h)
    obtain ⟨W₃, ⟨kp3, sh3⟩, H₈⟩ := H₈'.anchor
    have k13 := kp2.trans kp3
    -- ref.Run
    obtain ⟨k5, c5⟩ := c_refrun (main := (0 == 0)) sh3 lcap pcap (vrow_kp k13 vp) (vrow_kp k13 hus1) hul (fun k => by
      obtain ⟨a, c, h1, h2⟩ := huk1 k
      exact ⟨a, c, h1, nts_kp k13 h2⟩) (fun k => by have := f3 k; omega) (by omega) hPx (by omega)
    rw [← hEE] at c5
    refine (H₈.walk gone_stb fun g w hK => ⟨10 + k5 + 3 + 20, by
      obtain ⟨rfl, hK⟩ := hK
      exact l_ref (mn := (0 == 0)) (Q := fun w => Ext Vn W₃ w) (fun _ _ h r => h.trans r) (Rv := fun r w => ∃ a c, r = .slice a E.length c ∧ EvRow w a E) w hK T7 g1 g2 g3 g4 g5 (fun w hw => (c5 w hw).mono fun r w' h => ⟨h.1, own_evrow h.2⟩) (fun r w w' h e => by obtain ⟨a, c, h1, h2⟩ := h; exact ⟨a, c, h1, evrow_ext h2 e⟩)⟩).bind fun m₉ T₉ H₉ => ?_
    have H₉' := H₉.mono (K' := fun g w => ∃ a c T', (T'.size = 36 ∧ T'[29]? = some (.bool true) ∧ T'[30]? = some (.slice ae E.length ce) ∧ T'[33]? = some (.slice a E.length c)) ∧ g = G (fLw T' (.inRegion opsL5 [10, 11, 12] :: .code .ret :: [])) [] ∧ (Ext Vn W₃ w ∧ EvRow w a E)) (fun g w h => by
      obtain ⟨r, T', h1, h2, h3, a, c, rfl, h4⟩ := h
      exact ⟨a, c, T', h1, h2, h3, h4⟩) (fun _ _ h => h)
    obtain ⟨ar, H₉⟩ := H₉'.ex
    obtain ⟨cr, H₉⟩ := H₉.ex
    obtain ⟨T9, H₉⟩ := H₉.ex
    obtain ⟨⟨i1, i2, i3, i4⟩, H₉⟩ := H₉.and
    obtain ⟨W₄, ⟨e4, ev4⟩, H₉⟩ := H₉.anchor
    -- same
    obtain ⟨k6, c6⟩ := c_same (main := (0 == 0)) (pre_ext sh3 e4) ce cr (evrow_kp (kp3.trans (keep_of e4)) ev2) ev4 (by rw [hEE]; have := rrE_len f1 f2 f3; omega)
    have kW4 : Keep W W₄ := kW1.trans (k13.trans (keep_of e4))
    refine (H₉.walk gone_stb fun g w hK => ⟨10 + k6 + 3, by
      obtain ⟨rfl, hK⟩ := hK
      exact l_out (mn := (0 == 0)) (b := true) (Q := fun w => Ext Vn W₄ w) (fun _ _ h r => h.trans r) w hK T9 i1 i2 i3 i4 (fun w hw => (c6 w hw).mono fun r w' h => ⟨by rw [h.1]; simp, h.2⟩)⟩).mono fun m' T' H => ⟨_, _, H.mono (fun g w h => by
        obtain ⟨T', k, h1, h2, h3⟩ := h
        exact ⟨T', k, h1, h2, kW4.ext h3⟩) (fun _ _ h => h)⟩
#print axioms law_runs
end

/-! ### CwOpen -/
section
open Go Go.ChangeShapes Go.WideShapes Go.ChangeAt Go.RowKit Cw

theorem list_of {α : Type} {p : Nat → α → Prop} : ∀ n, (∀ i, i < n → ∃ a, p i a) → ∃ l : List α, l.length = n ∧ ∀ i a, l[i]? = some a → p i a
  | 0, _ => ⟨[], rfl, by simp⟩
  | n + 1, h => by
    obtain ⟨l, hl, hp⟩ := list_of n (fun i hi => h i (by omega))
    obtain ⟨a, ha⟩ := h n (by omega)
    refine ⟨l ++ [a], by simp [hl], fun i b hb => ?_⟩
    by_cases hi : i < n
    · rw [List.getElem?_append_left (by omega)] at hb
      exact hp i b hb
    · have h1 : i < (l ++ [a]).length := (List.getElem?_eq_some_iff.1 hb).1
      simp only [List.length_append, List.length_cons, List.length_nil] at h1
      have e : i = n := by omega
      rw [List.getElem?_append_right (by omega), show i - l.length = 0 by omega] at hb
      simp only [List.getElem?_cons_zero, Option.some.injEq] at hb
      rw [e, ← hb]; exact ha
theorem bulk_pos {H : Type} (d : DataW H) : 1 ≤ Rows.uptoBulk d := by
  cases d with
  | lit l => cases l <;> simp [Rows.uptoBulk]
  | _ => simp [Rows.uptoBulk]
theorem bulk_mem {H : Type} {d : DataW H} : ∀ {l : List (DataW H)}, d ∈ l → Rows.uptoBulk d ≤ Rows.uptoBulkAll l
  | x :: r, h => by
    simp only [Rows.uptoBulkAll]
    rcases List.mem_cons.1 h with rfl | h
    · omega
    · have := bulk_mem h; omega
theorem bulk_len {H : Type} : ∀ (l : List (DataW H)), l.length ≤ Rows.uptoBulkAll l
  | [] => by simp
  | x :: r => by
    have h1 := bulk_pos x
    have h2 := bulk_len r
    simp only [Rows.uptoBulkAll, List.length_cons]
    omega

section
variable {H : Type} {enc : TypeId × Value → H} {w : World} {base : Nat} {sp : Nat → Bool} {held : Bool}
theorem plain_spot {a : Addr} {v : Value} (h : w.cell? a = some v) : a.spot = none := by
  unfold World.cell? at h
  cases hs : a.spot with
  | none => rfl
  | some x =>
    rw [hs] at h
    split at h <;> simp at h
/-- A slice whose elements take one cell each. -/
theorem open_list {α : Type} {t e : TypeId} (ht : Try.prog.underlying t = some (.slice e)) (hc : Try.prog.cellsOf e = 1) {p : α → Value → DataW H → Prop} (hp : ∀ n u x, DataW.trod enc Try.prog w base sp held n e [u] = some x → ∃ a, p a u x.1)
    {fuel : Nat} {cs : List Value} {x : DataW H × List MemPlace} (h : DataW.trod enc Try.prog w base sp held fuel t cs = some x) :
    ∃ (a : Option Addr) (l : List α) (cap : Nat), cs = [.slice a l.length cap] ∧ (l = [] ∨ ∃ b o, a = some ⟨b, o, none⟩ ∧ ∀ (k : Nat) (y : α), l[k]? = some y → ∃ u, w.cell? ⟨b, o + k, none⟩ = some u ∧ ∃ d, p y u d ∧ Rows.uptoBulk d ≤ Rows.uptoBulk x.1) ∧ l.length ≤ Rows.uptoBulk x.1 ∧ ∀ y ∈ l, ∃ u d, p y u d ∧ Rows.uptoBulk d ≤ Rows.uptoBulk x.1 := by
  rcases DataW.trod_slice ht h with ⟨rfl, rfl⟩ | ⟨a, len, cap, elems, rest, n, rfl, rfl, rfl, _, hlc, _, hel, hi, _, _⟩
  · exact ⟨none, [], 0, rfl, .inl rfl, by simp, by simp⟩
  · rw [hc] at hi
    obtain ⟨l, hl, hp'⟩ := list_of (p := fun i y => ∃ u d, w.cell? (a.add i) = some u ∧ p y u d ∧ d ∈ elems.map (·.1)) len (fun i hlt => by
      have he : elems[i]? = some elems[i] := List.getElem?_eq_getElem (by omega)
      obtain ⟨cs, h2, h3⟩ := Option.bind_eq_some_iff.1 ((hi i hlt).trans he)
      obtain ⟨_, h4, h5⟩ := World.cells?_some h2
      match cs, h4, h5, h3 with
      | [u], _, h5, h3 =>
        have h6 := h5 0 (by omega)
        obtain ⟨y, hy⟩ := hp _ _ _ h3
        exact ⟨y, u, _, by simpa [Addr.add] using h6, hy, List.mem_map.2 ⟨_, List.mem_of_getElem? he, rfl⟩⟩)
    have hb : ∀ d ∈ elems.map (·.1), Rows.uptoBulk d ≤ Rows.uptoBulk (DataW.slice (elems.map (·.1)) (rest.map (·.1))) := fun d hd => by
      have := bulk_mem hd
      simp only [Rows.uptoBulk]
      omega
    refine ⟨some a, l, cap, by rw [hl], ?_, ?_, fun y hy => ?_⟩
    · rcases l with _ | ⟨y0, l'⟩
      · exact .inl rfl
      · right
        obtain ⟨u0, d0, c0, _⟩ := hp' 0 y0 rfl
        have hs : a.spot = none := plain_spot (w := w) (v := u0) (by simpa [Addr.add] using c0)
        refine ⟨a.block, a.off, by cases a; simp_all, fun k y hk => ?_⟩
        obtain ⟨u, d, c, hpy, hd⟩ := hp' k y hk
        refine ⟨u, ?_, d, hpy, hb d hd⟩
        rw [← c]
        cases a
        simp only at hs
        subst hs
        unfold Addr.add
        split
        · rename_i h; subst h; simp
        · rfl
    · have := bulk_len (elems.map (·.1))
      simp only [Rows.uptoBulk]
      simp only [List.length_map] at this
      omega
    · obtain ⟨k, hk⟩ := List.getElem?_of_mem hy
      obtain ⟨u, d, _, hpy, hd⟩ := hp' k y hk
      exact ⟨u, d, hpy, hb d hd⟩
theorem open_u8row {t : TypeId} (ht : Try.prog.underlying t = some (.slice 5)) {v : Value} {d : DataW H} {ps : List MemPlace} (hs : ∃ a len cap, v = .slice a len cap) (h : DataW.Trod enc Try.prog w base sp held t v d ps) :
    ∃ p : List Nat, U8Row w v p ∧ p.length ≤ Rows.uptoBulk d ∧ ∀ x ∈ p, x < 256 := by
  obtain ⟨a, len, cap, rfl⟩ := hs
  obtain ⟨n, h⟩ := h
  obtain ⟨A, l, c, h1, h2, h3, h4⟩ := open_list (α := Nat) (p := fun y u _ => u = .int .u8 y ∧ y < 256) ht (by kernel_rfl) (fun n u x h => by
    obtain ⟨m, e, _, hw⟩ := DataW.trod_int Try.underlying5 h
    injection e with e
    simp [Lit.wf, IntKind.min, IntKind.max, IntKind.signed, IntKind.bits] at hw
    exact ⟨m.toNat, by rw [e, Int.toNat_of_nonneg (by omega)], by omega⟩) h
  have h1' : [Value.slice a len cap] = _ := h1
  injection h1' with h1'
  refine ⟨l, ⟨A, c, h1', ?_⟩, h3, fun y hy => by obtain ⟨_, _, ⟨_, h⟩, _⟩ := h4 y hy; exact h⟩
  rcases h2 with rfl | ⟨b, o, e, hk⟩
  · exact .inl rfl
  · exact .inr ⟨b, o, e, fun k x hx => by
      obtain ⟨u, hu, _, ⟨rfl, _⟩, _⟩ := hk k x hx
      exact hu⟩
theorem open_strrow {n : Nat} {u : Value} {x : DataW H × List MemPlace} (h : DataW.trod enc Try.prog w base sp held n 38 [u] = some x) : ∃ S : List ByteArray, StrRow w u S ∧ S.length ≤ Rows.uptoBulk x.1 := by
  obtain ⟨A, l, c, h1, h2, h3, h4⟩ := open_list (α := ByteArray) (p := fun y u _ => u = .string y) Try.underlying38 (by kernel_rfl) (fun n u x h => by
    obtain ⟨s, e, _, _⟩ := DataW.trod_string Try.underlying9 h
    injection e with e
    exact ⟨s, e⟩) h
  injection h1 with h1
  refine ⟨l, ⟨A, c, h1, ?_⟩, h3⟩
  rcases h2 with rfl | ⟨b, o, e, hk⟩
  · exact .inl rfl
  · exact .inr ⟨b, o, e, fun k x hx => by
      obtain ⟨u, hu, _, rfl, _⟩ := hk k x hx
      exact hu⟩
theorem open_strrows {t : TypeId} (ht : Try.prog.underlying t = some (.slice 38)) {v : Value} {d : DataW H} {ps : List MemPlace} (hs : ∃ a len cap, v = .slice a len cap) (h : DataW.Trod enc Try.prog w base sp held t v d ps) :
    ∃ L : List (List ByteArray), StrRows w v L ∧ L.length ≤ Rows.uptoBulk d ∧ ∀ S ∈ L, S.length ≤ Rows.uptoBulk d := by
  obtain ⟨a, len, cap, rfl⟩ := hs
  obtain ⟨n, h⟩ := h
  obtain ⟨A, l, c, h1, h2, h3, h4⟩ := open_list (α := List ByteArray) (p := fun S u d => StrRow w u S ∧ S.length ≤ Rows.uptoBulk d) ht (by kernel_rfl) (fun n u x h => open_strrow h) h
  have h1' : [Value.slice a len cap] = _ := h1
  injection h1' with h1'
  refine ⟨l, ⟨A, c, h1', ?_⟩, h3, fun S hS => by obtain ⟨_, _, ⟨_, h⟩, h'⟩ := h4 S hS; exact Nat.le_trans h h'⟩
  rcases h2 with rfl | ⟨b, o, e, hk⟩
  · exact .inl rfl
  · exact .inr ⟨b, o, e, fun k x hx => by
      obtain ⟨u, hu, _, ⟨h, _⟩, _⟩ := hk k x hx
      exact ⟨u, hu, h⟩⟩
end

section
variable {H : Type} {enc : TypeId × Value → H} {P : Program}
theorem Leaves.same {W W' : World} (h : Leaves W W') {p : MemPlace} (hp : p.block < W.heap.size) : W.sameAt W' p := by
  cases p with
  | cell b o => exact World.cell?_of_block (w := W) (h.keep.2 b hp)
  | map b => exact h.keep.2 b hp
theorem Leaves.frame {W w' : World} (h : Leaves W w') (may : MemPlace → Prop) : W.keptBut w' may := by
  refine ⟨h.os, h.output, fun i hi => ?_⟩
  rw [h.keep.2 i hi]
  split <;> simp_all
theorem trodAll_left (hl : laidOutB P = true) {W W' : World} (hb : Leaves W W') {sp : Nat → Bool} :
    ∀ {ts : List TypeId} {vs : List Value} {ds : List (DataW H)} {ps : List MemPlace}, (∀ t ∈ ts, P.readableRec t = true ∧ t < P.types.size) → DataW.TrodAll enc P W 0 (fun _ => true) true ts vs ds ps →
      (∀ p ∈ ps, p.block < W.heap.size) → (∀ p ∈ ps, sp p.block = true) → DataW.TrodAll enc P W' 0 sp true ts vs ds ps
  | [], [], [], _, _, h, _, _ => h
  | t :: ts, v :: vs, d :: ds, _, hr, h, hlt, hsp => by
    obtain ⟨p, q, h1, h2, rfl⟩ := h
    obtain ⟨hr1, hr2⟩ := hr t (by simp)
    exact ⟨p, q, WideElems.Trod_stays hl hr1 hr2 h1 (fun x hx => hb.same (hlt x (by simp [hx]))) (fun x hx => hsp x (by simp [hx])),
      trodAll_left hl hb (fun t ht => hr t (by simp [ht])) h2 (fun x hx => hlt x (by simp [hx])) (fun x hx => hsp x (by simp [hx])), rfl⟩
  | [], _ :: _, _, _, _, h, _, _ => h.elim
  | [], [], _ :: _, _, _, h, _, _ => h.elim
  | _ :: _, [], _, _, _, h, _, _ => h.elim
  | _ :: _, _ :: _, [], _, _, h, _, _ => h.elim
/-- A law's end. -/
theorem left_close (hl : laidOutB P = true) {f : Func} {s : ChangeSpec} {tb : TypeId} (htb : P.underlying tb = some .bool) (hres : f.resultTypes = #[tb]) (hvars : s.vars = []) (hrd : ∀ t ∈ f.params.toList, P.readableRec t = true ∧ t < P.types.size)
    {fresh handsOn : Bool} {W W' : World} {args : Array Value} {ds gs : List (DataW H)} {before : List MemPlace} (hspec : s.fn H (ds ++ gs) = { results := [.lit (.bool true)], args := ds })
    (hW : DataW.Whole enc P f.params.toList s.vars false W args.toList ds gs before) (hb : Leaves W W') : s.post enc P f false fresh handsOn false W args (.bool true) W' := by
  have hlt : ∀ p ∈ before, p.block < W.heap.size := fun p hp => hW.lt p hp
  have hW' := hW
  obtain ⟨p, q, hA, hV, rfl, _, _⟩ := hW
  have hV' := hV
  rw [hvars] at hV'
  obtain ⟨rfl, rfl⟩ := trodVars_none hV'
  refine ⟨ds, _, _, [], p, [], hW', ?_, ?_, ?_, hb.frame _, fun h => by cases h⟩
  · rw [hspec, hres]; exact trodAll_mk1 (shut_bool htb true)
  · rw [hspec]; exact trodAll_left hl hb hrd hA (fun x hx => hlt x (by simp [hx])) (fun x hx => by simpa using hlt x (by simp [hx]))
  · rw [hspec, hvars]; rfl
end
end

/-! ### CwHold -/
section
open Go Go.Conc

section
variable {H : Type} {enc : TypeId × Value → H}
theorem leaving_of_cond {a : Assume} {C : Checked} {os : Os} {f : FuncId} {fn : Func} {s : OpenSpec} {k : (H : Type) → List (DataW H) → Bool} (hk : s.cond = some k) {F : Stop.Interp} {conds : List PathCond} {apart fresh handsOn again : Bool}
    (own : ownKnob C.prog.godebug = none) (started : os.Started) (hfn : C.prog.funcs[f]? = some fn)
    (witness : ∃ (w : World) (tape : Tape) (i : Input), w.os = os ∧ (w.forCall tape i).Shaped C.prog ∧ i.vars = [] ∧ Input.okWide C.prog (w.forCall tape i) .any w.heap.size f i ∧
      s.pre6 enc C.prog fn conds apart (w.forCall tape i).memory i.args ∧ a.holds C.prog (lone (Frame.enter C.prog f i.args .normal) [] (w.forCall tape i)))
    (runs : ∀ (W : World) (base : Nat) (args : Array Value) (ds gs : List (DataW H)) (before : List MemPlace),
      (∀ (j : Nat) t v, fn.params[j]? = some t → args[j]? = some v → Value.okWide C.prog W .any base t v) →
      DataW.Whole enc C.prog fn.params.toList s.vars apart W args.toList ds gs before → k H (ds ++ gs) = true →
      ∃ M last o w' t', runNT C.prog (M + 1) (solo (G (Frame.enter C.prog f args .normal) []) W) #[] = (.ended o w', t') ∧ runN C.prog M (solo (G (Frame.enter C.prog f args .normal) []) W) = .next last ∧
        step C.prog last = .ended o w' ∧ Go.Conc.Good C.prog (fun v W' => (s.at F).post enc C.prog fn apart fresh handsOn again W args v W') last o w' t') :
    ReturnsInLeavingWide a C os f .any (s.pre6 enc C.prog fn conds apart) ((s.at F).post enc C.prog fn apart fresh handsOn again) := by
  refine returnsInLeavingWide_of_good own started witness fun w tape i _ _ _ hok hpre _ => ?_
  obtain ⟨_, _, _, fn', hfn', _, _, _, _, hval⟩ := hok
  cases Option.some.inj (hfn'.symm.trans hfn)
  obtain ⟨ds, gs, before, hw, _, hkk⟩ := (OpenSpec.pre_some hk conds apart _ _).1 hpre.1
  obtain ⟨M, last, o, w', t', h1, h2, h3, h4⟩ := runs (w.forCall tape i) w.heap.size i.args ds gs before hval (DataW.Whole.of_heap (w' := w.forCall tape i) (by rfl) hw) hkk
  exact ⟨M, last, o, w', t', h1, h2, h3, h4.mono fun v hp => ChangeSpec.post_blind hp⟩
end

theorem holds_leaving_cond {p : Pinned} {s : OpenSpec} {c : OpenClaim} (f : FuncId) (fn : Func)
    (hn : c.program = p.name) (hs : c.sum = p.sum) (hsp : c.spec = s.name)
    (hstart : c.start = .entering) (hout : c.outside = []) (hin : c.inits = []) (hun : c.under = none) (hi4 : c.initsInPlace = [] ∧ c.initsUnfollowed = false ∧ c.initsRecurse = false ∧ c.initsNamed = [] ∧ c.initsPassed = []) (hnb : c.noBlocks = false) (hlv : c.leaving = true) (hfo : c.followed = none) (hnar : c.narrowed = s.cond.isSome) (hstill : c.still = false)
    (hfn : p.checked.prog.funcNamed c.func = some f) (hf : p.checked.prog.funcs[f]? = some fn)
    (closed : joinedFacts p.checked.prog f fn s.bare c = true)
    (hinst : fn.isInstance p.checked.prog c.origin c.targs) (hwrap : fn.isWrapper p.checked.prog c.wrapper c.mainSum)
    (h : ∀ os : Os, os.Started → ∀ (H : Type) (enc : TypeId × Value → H), ∀ F : Stop.Interp,
      ReturnsInLeavingWide c.assume p.checked os f .any (c.pre enc p.checked.prog fn s) ((s.at F).post enc p.checked.prog fn c.apart c.fresh c.handsOn c.again)) : c.holds p s := by
  simp only [joinedFacts, Bool.and_eq_true, beq_iff_eq, Array.all_eq_true_iff_forall_mem, List.all_eq_true, decide_eq_true_eq] at closed
  obtain ⟨⟨⟨⟨⟨⟨⟨⟨⟨⟨⟨⟨⟨⟨⟨⟨⟨⟨⟨⟨⟨⟨⟨⟨⟨⟨⟨⟨⟨⟨⟨k1, k2⟩, k3⟩, k4⟩, k5⟩, k6⟩, k7⟩, k8⟩, k9⟩, k10⟩, k11⟩, k12⟩, k13⟩, k14⟩, k15⟩, k16⟩, k17⟩, k17b⟩, k18⟩, k19⟩, k20⟩, k21⟩, k22⟩, k23⟩, k23b⟩, k24⟩, k24b⟩, k24c⟩, k25⟩, k26⟩, k27⟩, k28⟩ := closed
  have hq : ∀ os : Os, Stop.quiet p.checked.prog os := fun os k hk => by rw [k9] at hk; cases hk
  refine ⟨k1, hn, hs, hsp, k2, k3, by unfold OpenClaim.startFits; rw [hstart]; exact k24, by unfold OpenClaim.startTold; rw [hstart]; exact ⟨hin, hun, hi4⟩, f, fn, hfn, hf, ⟨k4, k19⟩, (fun hb => by rw [hnb] at hb; cases hb), by unfold OpenClaim.namedList; rw [hfo]; exact k5, hinst, hwrap,
    k6.trans k7.symm, ⟨k8.trans k9.symm, by unfold Program.envWorded; rw [k9]; rfl, k23b⟩, k10, k11, k12, k13, k14, ⟨k15, k27, k28⟩, ⟨k16, k20⟩, ⟨k17, k21, k25, k26⟩, ⟨k22, k24b, k24c, k17b⟩, (by rw [hout, hnar]; cases hsh : c.shortTexts with | none => simp | some _ => rw [hsh] at k23; cases k23), fun n hn' => varReadable_some (k18 n hn'),
    ⟨_, by unfold OpenClaim.world; rw [hout, hstart]; exact WideRow.started_initial, hq _⟩, [], by unfold OpenClaim.lists; rw [hfo], fun os st _ H enc _ => ?_⟩
  have st' : os.Started := by unfold OpenClaim.world at st; rw [hout, hstart] at st; exact st
  rw [OpenClaim.post_not_still hstill]
  unfold OpenClaim.form
  rw [hstart, k6]
  intro F
  have e1 : c.okInput = Input.okWide := by unfold OpenClaim.okInput; rw [hnb]
  have e2 : c.atReturn p.checked.prog = leavingAtReturn p.checked.prog := by unfold OpenClaim.atReturn; rw [hlv]
  have e3 : c.always p.checked.prog [] = nothingAlways := by unfold OpenClaim.always; rw [hfo]
  have e4 : s.post enc p.checked.prog fn F c.outside c.apart c.fresh c.handsOn c.again = (s.at F).post enc p.checked.prog fn c.apart c.fresh c.handsOn c.again := by rw [hout]; rfl
  rw [e1, e2, e3]
  show ReturnsInOpen _ _ _ _ _ _ _ _ (s.post enc p.checked.prog fn F c.outside c.apart c.fresh c.handsOn c.again) _ _
  rw [e4]
  exact h os st' H enc F k24
end
end Go.Proofs.Ytggfcdhkgldbfaa
