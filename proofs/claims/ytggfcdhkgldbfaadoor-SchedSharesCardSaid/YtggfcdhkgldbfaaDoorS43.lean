/-
  PARTS of a claim, merged by segs.py: CwSh6.
-/
import Derived.Test.YtggfcdhkgldbfaaDoorS42
namespace Go.Proofs.YtggfcdhkgldbfaaDoor
set_option linter.unusedSimpArgs false
set_option linter.unusedVariables false

/-! ### CwSh6 -/
section
set_option linter.unusedSimpArgs false
open Go Go.Conc Go.RowKit Go.ConcR.Gen Cw
open Go.ConcN (sumTo)

theorem enter_lawH (v x : Value) : Frame.enter Tryd.prog 3 #[v, x] .normal = fSh #[v, x, undef, undef, undef, undef, undef, undef, undef, undef, undef, undef, undef, undef, undef, undef, undef, undef, undef, undef, undef, undef, undef, undef, undef, undef, undef, undef, undef, undef, undef, undef, undef, undef, undef, undef, undef, undef, undef, undef, undef, undef, undef, undef, undef, undef, undef, undef, undef, undef, undef, undef, undef, undef, undef, undef, undef, undef, undef, undef, undef, undef, undef, undef, undef, undef, undef, undef, undef, undef, undef, undef, undef, undef, undef, undef, undef, undef, undef, undef, undef, undef, undef, undef, undef, undef, undef, undef, undef, undef, undef, undef, undef, undef] [.code bodyShr] := by
  rw [enter_at (c := bodyShr) _ Tryd.func3 (by simp [bodyShr, Tryd.f3])]
  simp only [Tryd.ntmps3, List.size_toArray, List.length_cons, List.length_nil, Nat.reduceAdd, Nat.reduceSub, Nat.zero_add, Nat.sub_zero, Array.replicate_succ, Array.replicate_zero, List.push_toArray, List.append_toArray, List.nil_append, List.cons_append]
theorem fin_lawH {Sh : Loc → Prop} {T : Array Value} {k : List Item} {W w : World} (h4 : T[4]? = some (.bool true)) (h : Leaves W w) : AtFin Tryd.prog (Cx0 Sh) (fun r w' => r = .bool true ∧ Leaves W w') (G { fSh T k with mode := .returning } []) w := by
  refine ⟨rfl, fun d => ⟨.bool true, #[], ?_, by simp, rfl, ⟨h.keep.1, h.keep.2⟩, h.os, h.output⟩⟩
  simp [G, stepG, unwind, doReturn, results, Frame.at, base, Tryd.func3, Tryd.f3, seen, GStep.after, h4]
theorem goes_partH {f : FuncId} {Sh : Loc → Prop} {mn : Bool} {x y : Code} {n : Nat} {K : Act → World → Prop} {a : Act} {w : World} (hK : ∀ a w w', K a w → Ext Vn w w' → K a w')
    (hx : ∀ w', Ext Vn w w' → x.wpC Tryd.prog mn (Ext Vn) (HDq (Cx0 Sh)) f n (Exit.then K fun _ _ _ => False) a w') :
    Goes Tryd.prog mn (Ext Vn) (HDq (Cx0 Sh)) (fun g w => ∃ a', g = G ((base f).at a' (.code y :: [])) [] ∧ K a' w) (n + 1) (G ((base f).at a (.code (.seq x y) :: [])) []) w := goes_partF hK hx
theorem tm3_ge {a : Nat → Nat} (k : Nat) (hk : 3 ≤ k) : tm3 a k = 0 := by unfold tm3; rw [if_neg (by omega)]
theorem tm3_le {a : Nat → Nat} (k : Nat) : tm3 a k ≤ 7 := by unfold tm3; split <;> omega
theorem tm3_of {a : Nat → Nat} {k : Nat} (hk : k < 3) : tm3 a k = a k % 8 := by unfold tm3; rw [if_pos hk]
theorem rel0 {W : World} {sb : Nat} {a : Nat → Nat} : ShRelS ((addersT W sb (tm3 a) 3).s0 (0 : Nat)) ⟨0, leftAt a 3, [0, 0, 0], [false, false, false], []⟩ := by
  refine ⟨rfl, rfl, rfl, rfl, rfl, fun k hk => ?_⟩
  refine ⟨fun _ => ⟨?_, ?_, fun n hn => by cases hn⟩, fun h => by cases h⟩
  · rcases (by omega : k = 0 ∨ k = 1 ∨ k = 2) with rfl | rfl | rfl <;> rfl
  · rcases (by omega : k = 0 ∨ k = 1 ∨ k = 2) with rfl | rfl | rfl <;> rfl
theorem simB0 (a : Nat → Nat) : SimB ⟨0, leftAt a 3, [0, 0, 0], [false, false, false], []⟩ := by
  refine ⟨rfl, rfl, rfl, Nat.le_refl _, fun k hk => ?_, fun k => ?_, ?_⟩
  · rcases k with _ | _ | _ | k <;> simp at hk
  · rcases k with _ | _ | _ | k <;> simp
  · show 0 + (a 0 % 8 + a 1 % 8 + a 2 % 8) ≤ 21
    omega
section
variable {W₁ W₂ : World} {sb : Nat} {a : Nat → Nat} {al ap : Option Addr} {ps : List Nat}
theorem preS (hcell : W₂.heap[sb]? = some (.cells #[.int .i64 0] 3 (0, 0))) (hx : VRow W₂ al (tvL sb a 3)) (hp : VRow W₂ ap (ints ps)) (h1 : ∀ b o, al = some ⟨b, o, none⟩ → b ≠ sb) (h2 : ∀ b o, ap = some ⟨b, o, none⟩ → b ≠ sb) :
    PreT (fun _ => False) al ap (tvL sb a 3) ps (fun W => addersT W sb (tm3 a) 3) (fun _ => (0 : Nat)) sb W₂ where
  sh := fun a h => h.elim
  tasks := hx
  picks := hp
  ok := adders_ok (fun a h => h.elim) hcell (fun k hk => tm3_ge k hk) (fun k => by have := tm3_le (a := a) k; omega)
  tm := fun w hw => ⟨fun b hb _ => hw b hb, (hw sb (Array.getElem?_eq_some_iff.1 hcell).1).trans hcell⟩
  frame := fun m w h b hb hne => h.1 b hb hne
  tvk := fun k v hv => by
    show tvD sb (tm3 a) k = v
    rcases k with _ | _ | _ | k
    · have hv' : some (adT sb (a 0 % 8)) = some v := hv
      cases hv'
      rfl
    · have hv' : some (adT sb (a 1 % 8)) = some v := hv
      cases hv'
      rfl
    · have hv' : some (adT sb (a 2 % 8)) = some v := hv
      cases hv'
      rfl
    · simp [tvL, List.range_succ] at hv
  inv := by
    show InvD (tm3 a) 3 (fun _ => (0, none)) 0 0
    refine ⟨Nat.le_refl _, fun k j m h => by simp at h, ?_, fun k _ => rfl⟩
    have h0 := tm3_le (a := a) 0
    have h1 := tm3_le (a := a) 1
    have h2 := tm3_le (a := a) 2
    simp only [sumTo, remD, posD]
    omega
  sum := by
    have h0 := tm3_le (a := a) 0
    have h1 := tm3_le (a := a) 1
    have h2 := tm3_le (a := a) 2
    show (sumTo 3 (fun k => rkD (tm3 a k) (0, none)) + 1) * 1024 ≤ 140737488355328
    simp only [sumTo, rkD]
    omega
  rowT := fun b o ha _ => h1 b o ha
  rowP := fun b o ha _ => h2 b o ha
  sbs := fun a h => h.elim
end
theorem step_leftD (s : Sim) (t : Nat) : (s.step t).left.getD t 0 = s.left.getD t 0 - 1 := by
  unfold Sim.step
  rw [comp_left]
  by_cases h : s.left.getD t 0 = 0
  · rw [if_pos h, comp_left, h]
  · rw [if_neg h]
    have hl : t < s.left.length := by
      apply Nat.lt_of_not_le
      intro hl
      exact h (by simp [List.getD_eq_getElem?_getD, List.getElem?_eq_none hl])
    show ((s.comp t).left.set t ((s.comp t).left.getD t 0 - 1)).getD t 0 = _
    rw [comp_left, getD_set_self hl]
theorem itr_leftD (t : Nat) : ∀ (j : Nat) (s : Sim), (itr (fun s => s.step t) j s).left.getD t 0 = s.left.getD t 0 - j
  | 0, s => by rfl
  | j + 1, s => by
    show (itr (fun s => s.step t) j (s.step t)).left.getD t 0 = _
    rw [itr_leftD t j, step_leftD]
    omega
theorem drained_ex (t : Nat) (s : Sim) : ∃ s', Drained t s s' := by
  refine ⟨_, s.left.getD t 0, ?_, rfl⟩
  unfold Sim.res
  rw [comp_left, itr_leftD, Nat.sub_self]
  rfl
/-- The shared number at the end. -/
noncomputable def mOf (W : World) (sb : Nat) (a : Nat → Nat) (P : List Nat) : Nat := ((addersT W sb (tm3 a) 3).fin (0 : Nat) 3 P).m
theorem own_lo {w : World} {N z n : Nat} {e : TypeId} {u : Value} {l : List Value} (h : w.ownsRow N e z u n l) {b o k c : Nat} (hu : u = .slice (some ⟨b, o, none⟩) k c) : N ≤ b := by
  rcases h.2 with ⟨rfl, _⟩ | ⟨g, cap, cur, rfl, hb, _⟩
  · cases hu
  · cases hu
    exact hb
section
variable [R0 : Ref] {W : World} {pc sb tb : Nat} {a : Nat → Nat}
/-- From the call's return to the end of the simulation, and to the end. -/
theorem tailH {Sh : Loc → Prop} {W₃ : World} {γ m : Nat} {ae ap : Option Addr} {ce : Nat} {ps : List Nat} {E : List (Int × ByteArray)} {mm : Machine} {T : Trace} (hγ : 1 ≤ γ) (hS : ShOk Sh W₃) (hk : Keep W W₃) (ha : ∀ k, a k < 256)
    (h30 : W₃.cell? ⟨tb, 0, none⟩ = some (.int .u8 (a 0))) (h31 : W₃.cell? ⟨tb, 1, none⟩ = some (.int .u8 (a 1))) (h32 : W₃.cell? ⟨tb, 2, none⟩ = some (.int .u8 (a 2))) (hsb : W₃.cell? ⟨sb, 0, none⟩ = some (.int .i64 m))
    (hp : VRow W₃ ap (ints ps)) (hpl : ps.length ≤ 4096) (hps : ∀ x ∈ ps, x < 3) (hE : EvRow W₃ ae E)
    (hfin : ∀ s, Chain (simF ⟨0, leftAt a 3, [0, 0, 0], [false, false, false], []⟩ ps) 3 s → s.v = m ∧ s.E = E)
    (T5 : Array Value) (a1 : T5.size = 94) (a2 : T5[3]? = some (pb tb)) (a3 : T5[5]? = some (pb sb)) (a4 : T5[9]? = some (.slice ap ps.length pc))
    (H : Held Tryd.prog (Cx0 Sh) Vn 0 0 γ Gone (fun g w => g = G ((base 3).at (Act.put ⟨T5, []⟩ ((opsHd[2]?).bind (·.dst)) (.tuple #[.slice ae E.length ce, .int .i64 (0 : Nat)])) (.inRegion opsHd [3, 4, 5, 6, 7] :: .code cdH6 :: [])) [] ∧ Ext Vn W₃ w) mm T) :
    Lands Tryd.prog mm T (fun m' T' => ∃ Sh γ, Held Tryd.prog (Cx0 Sh) Vn 0 0 γ Gone (fun g w => ∃ T' k, T'[4]? = some (.bool true) ∧ g = G { fSh T' k with mode := .returning } [] ∧ Keep W w) m' T') := by
  have trs : ∀ {A w w'}, Ext Vn A w → Ext Vn w w' → Ext Vn A w' := fun h r => h.trans r
  refine (H.walk gone_stb fun g w hK => ⟨30, by
    obtain ⟨rfl, hK⟩ := hK
    exact hw_mid (mn := (0 == 0)) (Q := fun w => Ext Vn W₃ w) (fun _ _ h r => h.trans r) w hK T5 a1 a2 a3 a4⟩).bind fun mA TA HA => ?_
  obtain ⟨T6, H⟩ := HA.ex
  obtain ⟨⟨b1, b2, b3, b4, b5, b6⟩, H⟩ := H.and
  -- the blocks
  obtain ⟨n6, p6⟩ := c_s6 (main := (0 == 0)) hS (s3 := pb tb) (s5 := pb sb) (s9 := .slice ap ps.length pc) (s10 := .slice ae E.length ce) (s11 := .int .i64 (0 : Nat))
  refine (H.walk gone_stb fun g w hK => ⟨n6 + 1, by
    obtain ⟨rfl, hK⟩ := hK
    rw [cdH6_eq]
    exact goes_partH (fun a w w' h r => by
      obtain ⟨T, pv, pl, pr, pp, h1, h2, h3, h4, h5, h6, h7, h8, h9, h10, h11, h12⟩ := h
      exact ⟨T, pv, pl, pr, pp, h1, h2, h3, h4, h5, h6, h7, h8, h9, h10, h11, h12.rl r⟩) (fun w' hr => p6 _ T6 w' b1 b2 b3 b4 b5 b6 (trs hK hr))⟩).bind fun mB TB HB => ?_
  have HB' := HB.mono (K' := fun g w => ∃ pv pl pr pp T', (T'.size = 94 ∧ T'[3]? = some (pb tb) ∧ T'[5]? = some (pb sb) ∧ T'[9]? = some (.slice ap ps.length pc) ∧ T'[10]? = some (.slice ae E.length ce) ∧ T'[11]? = some (.int .i64 (0 : Nat)) ∧ T'[12]? = some (pb pv) ∧ T'[13]? = some (pb pl) ∧ T'[14]? = some (pb pr) ∧ T'[15]? = some (pb pp)) ∧ g = G (fSh T' (.code cdH7 :: [])) [] ∧ RQ W₃ pv pl pr pp 0 [0, 0, 0] [0, 0, 0] [false, false, false] w) (fun g w h => by
    obtain ⟨a', h0, T, pv, pl, pr, pp, rfl, h2, h3, h4, h5, h6, h7, h8, h9, h10, h11, h12⟩ := h
    exact ⟨pv, pl, pr, pp, T, ⟨h2, h3, h4, h5, h6, h7, h8, h9, h10, h11⟩, h0, h12⟩) (fun _ _ h => h)
  obtain ⟨pv, H⟩ := HB'.ex
  obtain ⟨pl, H⟩ := H.ex
  obtain ⟨pr, H⟩ := H.ex
  obtain ⟨pp, H⟩ := H.ex
  obtain ⟨T7, H⟩ := H.ex
  obtain ⟨⟨c1, c2, c3, c4, c5, c6, c7, c8, c9, c10⟩, H⟩ := H.and
  obtain ⟨n7, p7⟩ := c_s7 (main := (0 == 0)) hS (s5 := pb sb) (s9 := .slice ap ps.length pc) (s10 := .slice ae E.length ce) (s11 := .int .i64 (0 : Nat)) (pv := pv) (pl := pl) (pr := pr) (pp := pp) ha h30 h31 h32
  refine (H.walk gone_stb fun g w hK => ⟨n7 + 1, by
    obtain ⟨rfl, hK⟩ := hK
    rw [cdH7_eq]
    exact goes_partH (fun a w w' h r => by
      obtain ⟨T, h1, h2, h4, h5, h6, h7, h8, h9, h10, h11, h12⟩ := h
      exact ⟨T, h1, h2, h4, h5, h6, h7, h8, h9, h10, h11, h12.rl r⟩) (fun w' hr => p7 _ T7 w' c1 c2 c3 c4 c5 c6 c7 c8 c9 c10 (hK.rl hr))⟩).bind fun mC TC HC => ?_
  have HC' := HC.mono (K' := fun g w => ∃ T', (T'.size = 94 ∧ T'[5]? = some (pb sb) ∧ T'[9]? = some (.slice ap ps.length pc) ∧ T'[10]? = some (.slice ae E.length ce) ∧ T'[11]? = some (.int .i64 (0 : Nat)) ∧ T'[12]? = some (pb pv) ∧ T'[13]? = some (pb pl) ∧ T'[14]? = some (pb pr) ∧ T'[15]? = some (pb pp)) ∧ g = G (fSh T' (.code cdH8 :: [])) [] ∧ RQ W₃ pv pl pr pp 0 (leftAt a 3) [0, 0, 0] [false, false, false] w) (fun g w h => by
    obtain ⟨a', h0, T, rfl, h2, h4, h5, h6, h7, h8, h9, h10, h11, h12⟩ := h
    exact ⟨T, ⟨h2, h4, h5, h6, h7, h8, h9, h10, h11⟩, h0, h12⟩) (fun _ _ h => h)
  obtain ⟨T8, H⟩ := HC'.ex
  obtain ⟨⟨d1, d3, d4, d5, d6, d7, d8, d9, d10⟩, H⟩ := H.and
  obtain ⟨n8, p8⟩ := c_s8 (main := (0 == 0)) hS (s5 := pb sb) (s9 := .slice ap ps.length pc) (s10 := .slice ae E.length ce) (s11 := .int .i64 (0 : Nat)) (pv := pv) (pl := pl) (pr := pr) (pp := pp) (v := 0) (left := leftAt a 3) (read := [0, 0, 0]) (pend := [false, false, false])
  refine (H.walk gone_stb fun g w hK => ⟨n8 + 1, by
    obtain ⟨rfl, hK⟩ := hK
    rw [cdH8_eq]
    exact goes_partH (fun a w w' h r => by
      obtain ⟨T, pw, h1, h2, h4, h5, h6, h7, h8, h9, h10, h11, h12, h13⟩ := h
      exact ⟨T, pw, h1, h2, h4, h5, h6, h7, h8, h9, h10, h11, h12, h13.rl r⟩) (fun w' hr => p8 _ T8 w' d1 d3 d4 d5 d6 d7 d8 d9 d10 (hK.rl hr))⟩).bind fun mD TD HD => ?_
  obtain ⟨s0, hs0⟩ : ∃ s0 : Sim, s0 = ⟨0, leftAt a 3, [0, 0, 0], [false, false, false], []⟩ := ⟨_, rfl⟩
  have HD' := HD.mono (K' := fun g w => ∃ pw T', (T'.size = 94 ∧ T'[5]? = some (pb sb) ∧ T'[9]? = some (.slice ap ps.length pc) ∧ T'[10]? = some (.slice ae E.length ce) ∧ T'[11]? = some (.int .i64 (0 : Nat)) ∧ T'[12]? = some (pb pv) ∧ T'[13]? = some (pb pl) ∧ T'[14]? = some (pb pr) ∧ T'[15]? = some (pb pp) ∧ T'[17]? = some (pb pw)) ∧ g = G (fSh T' (.code cdH9 :: [])) [] ∧ RS W₃ pv pl pr pp pw s0 (.slice none 0 0) w) (fun g w h => by
    obtain ⟨a', h0, T, pw, rfl, h2, h4, h5, h6, h7, h8, h9, h10, h11, h12, h13⟩ := h
    exact ⟨pw, T, ⟨h2, h4, h5, h6, h7, h8, h9, h10, h11, h12⟩, h0, by rw [hs0]; exact h13⟩) (fun _ _ h => h)
  obtain ⟨pw, H⟩ := HD'.ex
  obtain ⟨T9, H⟩ := H.ex
  obtain ⟨⟨e1, e3, e4, e5, e6, e7, e8, e9, e10, e11⟩, H⟩ := H.and
  obtain ⟨n9, p9⟩ := c_s9 (main := (0 == 0)) hS (s5 := pb sb) (s9 := .slice ap ps.length pc) (s10 := .slice ae E.length ce) (s11 := .int .i64 (0 : Nat)) (pv := pv) (pl := pl) (pr := pr) (pp := pp) (pw := pw) (s := s0) (u := .slice none 0 0)
  refine (H.walk gone_stb fun g w hK => ⟨n9 + 1, by
    obtain ⟨rfl, hK⟩ := hK
    rw [cdH9_eq]
    exact goes_partH (fun a w w' h r => by
      obtain ⟨T, h1, h2, h4, h5, h6, h7, h8, h9, h10, h13⟩ := h
      exact ⟨T, h1, h2, h4, h5, h6, h7, h8, h9, h10, h13.rl r⟩) (fun w' hr => p9 _ T9 w' e1 e3 e4 e5 e6 e7 e8 e9 e10 e11 (hK.rl hr))⟩).bind fun mE TE HE => ?_
  have HE' := HE.mono (K' := fun g w => ∃ T', (T'.size = 94 ∧ T'[5]? = some (pb sb) ∧ T'[9]? = some (.slice ap ps.length pc) ∧ T'[10]? = some (.slice ae E.length ce) ∧ T'[11]? = some (.int .i64 (0 : Nat)) ∧ T'[12]? = some (pb pv) ∧ T'[17]? = some (pb pw) ∧ T'[18]? = some (.func (.func 7) #[] #[pb pp, pb pr, pb pv, pb pl, pb pw])) ∧ g = G (fSh T' (.code cdH10 :: [])) [] ∧ RS W₃ pv pl pr pp pw s0 (.slice none 0 0) w) (fun g w h => by
    obtain ⟨a', h0, T, rfl, h2, h4, h5, h6, h7, h8, h9, h10, h13⟩ := h
    exact ⟨T, ⟨h2, h4, h5, h6, h7, h8, h9, h10⟩, h0, h13⟩) (fun _ _ h => h)
  obtain ⟨T10, H⟩ := HE'.ex
  obtain ⟨⟨f1, f3, f4, f5, f6, f7, f8, f9⟩, H⟩ := H.and
  have hB0 : SimB s0 := by rw [hs0]; exact simB0 a
  obtain ⟨n10, p10⟩ := c_s10 (main := (0 == 0)) hS (s5 := pb sb) (s10 := .slice ae E.length ce) (s11 := .int .i64 (0 : Nat)) (pv := pv) (pl := pl) (pr := pr) (pp := pp) (pw := pw) (pc := pc) hp hpl hps hB0
  refine (H.walk gone_stb fun g w hK => ⟨n10 + 1, by
    obtain ⟨rfl, hK⟩ := hK
    rw [cdH10_eq]
    exact goes_partH (fun a w w' h r => by
      obtain ⟨T, u, h1, h2, h4, h5, h6, h7, h8, h9, h13⟩ := h
      exact ⟨T, u, h1, h2, h4, h5, h6, h7, h8, h9, h13.rl r⟩) (fun w' hr => p10 _ T10 _ w' f1 f3 f4 f5 f6 f7 f8 f9 (hK.rl hr))⟩).bind fun mF TF HF => ?_
  have HF' := HF.mono (K' := fun g w => ∃ u T', (T'.size = 94 ∧ T'[5]? = some (pb sb) ∧ T'[10]? = some (.slice ae E.length ce) ∧ T'[11]? = some (.int .i64 (0 : Nat)) ∧ T'[12]? = some (pb pv) ∧ T'[17]? = some (pb pw) ∧ T'[18]? = some (.func (.func 7) #[] #[pb pp, pb pr, pb pv, pb pl, pb pw])) ∧ g = G (fSh T' (.code cdH11 :: [])) [] ∧ RS W₃ pv pl pr pp pw (simF s0 ps) u w) (fun g w h => by
    obtain ⟨a', h0, T, u, rfl, h2, h4, h5, h6, h7, h8, h9, h13⟩ := h
    exact ⟨u, T, ⟨h2, h4, h5, h6, h7, h8, h9⟩, h0, h13⟩) (fun _ _ h => h)
  obtain ⟨u11, H⟩ := HF'.ex
  obtain ⟨T11, H⟩ := H.ex
  obtain ⟨⟨g1, g3, g5, g6, g7, g8, g9⟩, H⟩ := H.and
  obtain ⟨n11, p11⟩ := c_s11 (main := (0 == 0)) hS (s5 := pb sb) (s10 := .slice ae E.length ce) (s11 := .int .i64 (0 : Nat)) (pv := pv) (pl := pl) (pr := pr) (pp := pp) (pw := pw) (simB_F hB0 ps hps)
  refine (H.walk gone_stb fun g w hK => ⟨n11 + 1, by
    obtain ⟨rfl, hK⟩ := hK
    rw [cdH11_eq]
    exact goes_partH (fun a w w' h r => by
      obtain ⟨T, u, h1, h2, h4, h5, h6, h7, h8, s, h9, h13⟩ := h
      exact ⟨T, u, h1, h2, h4, h5, h6, h7, h8, s, h9, h13.rl r⟩) (fun w' hr => p11 _ T11 _ w' g1 g3 g5 g6 g7 g8 g9 (hK.rl hr))⟩).bind fun mG TG HG => ?_
  have HG' := HG.mono (K' := fun g w => ∃ a2 c2 T', (T'.size = 94 ∧ T'[5]? = some (pb sb) ∧ T'[10]? = some (.slice ae E.length ce) ∧ T'[11]? = some (.int .i64 (0 : Nat)) ∧ T'[12]? = some (pb pv) ∧ T'[17]? = some (pb pw)) ∧ g = G (fSh T' (.code cdH12 :: [])) [] ∧ (Ext Vn W₃ w ∧ w.cell? ⟨pv, 0, none⟩ = some (.int .i64 m) ∧ w.cell? ⟨pw, 0, none⟩ = some (.slice a2 E.length c2) ∧ EvRow w a2 E)) (fun g w h => by
    obtain ⟨a', h0, T, u, rfl, h2, h4, h5, h6, h7, h8, s, h9, h13⟩ := h
    rw [hs0] at h9
    obtain ⟨x1, x2⟩ := hfin s h9
    have hrow := h13.row
    rw [x2] at hrow
    obtain ⟨a2, c2, hu, hev⟩ := own_evrow hrow
    refine ⟨a2, c2, T, ⟨h2, h4, h5, h6, h7, h8⟩, h0, h13.q.ext, ?_, ?_, hev⟩
    · rw [← x1]; exact h13.q.cv
    · rw [← hu]; exact h13.cw) (fun _ _ h => h)
  obtain ⟨a2', H⟩ := HG'.ex
  obtain ⟨c2', H⟩ := H.ex
  obtain ⟨T12, H⟩ := H.ex
  obtain ⟨⟨i1, i3, i5, i6, i7, i8⟩, H⟩ := H.and
  obtain ⟨W₄, ⟨x4, xv, xw, xe⟩, H⟩ := H.anchor
  refine (H.walk gone_stb fun g w hK => ⟨20, by
    obtain ⟨rfl, hK⟩ := hK
    exact hw_aw (mn := (0 == 0)) (Q := fun w => Ext Vn W₄ w) (fun _ _ h r => h.trans r) w hK T12 i1 i3 i5 i6 i7 i8⟩).bind fun mH TH HH => ?_
  obtain ⟨T13, H⟩ := HH.ex
  obtain ⟨⟨j1, j3, j5, j6, j7, j8⟩, H⟩ := H.and
  refine (awake_call (Q := fun w => Ext Vn W₄ w) hγ (H.mono (fun g w h => ⟨h.1, pre_ext hS (x4.trans h.2), h.2⟩) (fun _ _ h => h))).bind fun mI TI HI => ?_
  obtain ⟨Sh₅, HI⟩ := HI
  have HI' := HI.mono (K' := fun g w => g = G ((base 3).at (Act.put ⟨T13, []⟩ ((opsHe[0]?).bind (·.dst)) (.bool true)) (.inRegion opsHe [1, 2, 3, 4, 5, 6, 7, 8, 9, 10, 11, 12, 13, 14, 15] :: .code .ret :: [])) [] ∧ (Keep W₄ w ∧ ShOk Sh₅ w)) (fun g w h => by
    obtain ⟨Wx, h1, h2, h3, h4⟩ := h
    exact ⟨h1, (keep_of h2).trans h3, h4⟩) (fun _ _ h => h)
  obtain ⟨W₅, ⟨kp5, sh5⟩, H⟩ := HI'.anchor
  have k35 : Keep W₃ W₅ := (keep_of x4).trans kp5
  have hev1 : EvRow W₅ ae E := evrow_kp k35 hE
  have hev2 : EvRow W₅ a2' E := evrow_kp kp5 xe
  have hEl : E.length ≤ 17179869184 := by
    have hc : ∃ s, Chain (simF s0 ps) 3 s := by
      have dr : ∀ t s, ∃ s', Drained t s s' := fun t s => drained_ex t s
      obtain ⟨q1, r1⟩ := dr 0 (simF s0 ps)
      obtain ⟨q2, r2⟩ := dr 1 q1
      obtain ⟨q3, r3⟩ := dr 2 q2
      exact ⟨q3, q2, ⟨q1, ⟨_, rfl, r1⟩, r2⟩, r3⟩
    obtain ⟨s, hs⟩ := hc
    have hb := chain_B (simB_F hB0 ps hps) 3 s (Nat.le_refl _) hs
    have := hb.e98
    rw [hs0] at hs
    rw [← (hfin s hs).2]
    omega
  obtain ⟨k6, c6'⟩ := c_same (main := (0 == 0)) sh5 ce c2' hev1 hev2 hEl
  refine (H.walk gone_stb fun g w hK => ⟨10 + k6 + 3 + 60, by
    obtain ⟨rfl, hK⟩ := hK
    exact hw_end (mn := (0 == 0)) sh5 (cell_kp k35 hsb) (cell_kp kp5 xv) (cell_kp kp5 xw) w hK T13 j1 j3 j5 j6 j7 j8 (fun w hw => (c6' w hw).mono fun r w' h => ⟨by rw [h.1]; simp, h.2⟩)⟩).mono fun m' T' H => ⟨_, _, H.mono (fun g w h => by
      obtain ⟨T', k, h1, h2, h3⟩ := h
      exact ⟨T', k, h1, h2, (hk.trans k35).ext h3⟩) (fun _ _ h => h)⟩
end
set_option maxHeartbeats 4000000 in
theorem law_shares (W : World) {v : Value} {p : List Nat} {a : Nat → Nat} (hp : U8Row W v p) (hx : ∀ x ∈ p, x < 256) (ha : ∀ k, a k < 256) :
    ∃ M last o w' t', runNT Tryd.prog (M + 1) (solo (G (Frame.enter Tryd.prog 3 #[v, .agg (cel3 a)] .normal) []) W) #[] = (.ended o w', t') ∧ runN Tryd.prog M (solo (G (Frame.enter Tryd.prog 3 #[v, .agg (cel3 a)] .normal) []) W) = .next last ∧
      step Tryd.prog last = .ended o w' ∧ Go.Conc.Good Tryd.prog (fun r w' => r = .bool true ∧ Leaves W w') last o w' t' := by
  letI : Ref := ⟨W⟩
  have hp0 := hp
  obtain ⟨ap0, pc0, rfl, hpr⟩ := hp
  rw [enter_lawH]
  have H₀ := held_init Tryd.prog (G (fSh #[.slice ap0 p.length pc0, .agg (cel3 a), undef, undef, undef, undef, undef, undef, undef, undef, undef, undef, undef, undef, undef, undef, undef, undef, undef, undef, undef, undef, undef, undef, undef, undef, undef, undef, undef, undef, undef, undef, undef, undef, undef, undef, undef, undef, undef, undef, undef, undef, undef, undef, undef, undef, undef, undef, undef, undef, undef, undef, undef, undef, undef, undef, undef, undef, undef, undef, undef, undef, undef, undef, undef, undef, undef, undef, undef, undef, undef, undef, undef, undef, undef, undef, undef, undef, undef, undef, undef, undef, undef, undef, undef, undef, undef, undef, undef, undef, undef, undef, undef, undef] [.code bodyShr]) [])
  change Held Tryd.prog (Cx0 fun _ => False) Vn 0 0 1 Gone (fun g w => _ ∧ Ext Vn W w) _ _ at H₀
  have hS0 : ∀ w, ShOk (fun _ => False) w := fun w a h => h.elim
  have trs : ∀ {A w w'}, Ext Vn A w → Ext Vn w w' → Ext Vn A w' := fun h r => h.trans r
  refine Held.finish (K := fun g w => ∃ T' k, T'[4]? = some (.bool true) ∧ g = G { fSh T' k with mode := .returning } [] ∧ Keep W w) ?_ (fun Sh g w hK hi d => by
    obtain ⟨T', k, h4, rfl, hk⟩ := hK
    exact fin_lawH (w := w.at d) h4 ⟨⟨hk.1, hk.2⟩, hi.1, hi.2⟩)
  by_cases h60 : 60 < p.length
  · refine (H₀.walk gone_stb fun g w hK => ⟨30, by
      obtain ⟨rfl, hK⟩ := hK
      exact hw_no (mn := (0 == 0)) (W := W) h60 w ⟨hK, by simp⟩⟩).bind fun mA TA HA => ?_
    obtain ⟨T1, H⟩ := HA.ex
    obtain ⟨a1, H⟩ := H.and
    refine (awake_call (Q := fun w => Ext Vn W w) (Nat.le_refl 1) (H.mono (fun g w h => ⟨h.1, hS0 w, h.2⟩) (fun _ _ h => h))).bind fun mB TB HB => ?_
    obtain ⟨Sh₅, HB⟩ := HB
    have HB' := HB.mono (K' := fun g w => g = G ((base 3).at (Act.put ⟨T1, []⟩ ((opsHb[0]?).bind (·.dst)) (.bool true)) (.inRegion opsHb [1] :: .code .ret :: .code cdH1 :: [])) [] ∧ Keep W w) (fun g w h => by
      obtain ⟨Wx, h1, h2, h3, h4⟩ := h
      exact ⟨h1, (keep_of h2).trans h3⟩) (fun _ _ h => h)
    exact (HB'.walk gone_stb fun g w hK => ⟨10, by
      obtain ⟨rfl, hK⟩ := hK
      exact hw_out0 (mn := (0 == 0)) (Q := fun w => Keep W w) (fun _ _ h r => h.ext r) w hK T1 a1⟩).mono fun m' T' H => ⟨_, _, H⟩
  refine (H₀.walk gone_stb fun g w hK => ⟨30, by
    obtain ⟨rfl, hK⟩ := hK
    exact hw_yes (mn := (0 == 0)) (W := W) (by omega) w ⟨hK, by simp⟩⟩).bind fun mA TA HA => ?_
  obtain ⟨tb, H⟩ := HA.ex
  obtain ⟨T1, H⟩ := H.ex
  obtain ⟨⟨a1, a2, a3⟩, H⟩ := H.and
  obtain ⟨W₁, hk1, H⟩ := H.anchor
  have e1 : Ext Vn W W₁ := hk1.1
  obtain ⟨htlo, htb⟩ := hk1.2 _ (.head _)
  simp only at htlo htb
  have h30 : W₁.cell? ⟨tb, 0, none⟩ = some (.int .u8 (a 0)) := by simp [World.cell?, htb]
  have h31 : W₁.cell? ⟨tb, 1, none⟩ = some (.int .u8 (a 1)) := by simp [World.cell?, htb]
  have h32 : W₁.cell? ⟨tb, 2, none⟩ = some (.int .u8 (a 2)) := by simp [World.cell?, htb]
  have hE1 : ∀ {w}, Kn W [(tb, Obj.cells (cel3 a) 23 (0, 0))] w → True := fun _ => trivial
  obtain ⟨n1, p1⟩ := c_s1 (main := (0 == 0)) (hS0 W₁) (sP := .slice ap0 p.length pc0) (s3 := pb tb)
  refine (H.walk gone_stb fun g w hK => ⟨n1 + 1, by
    obtain ⟨rfl, hK⟩ := hK
    rw [cdH1_eq]
    exact goes_partH (fun a w w' h r => by
      obtain ⟨T, sb, h1, h2, h3, h4, h5, h6⟩ := h
      exact ⟨T, sb, h1, h2, h3, h4, h5, h6.rl r⟩) (fun w' hr => p1 _ T1 w' a1 a2 a3 (trs hK hr))⟩).bind fun mB TB HB => ?_
  have HB' := HB.mono (K' := fun g w => ∃ sb T', (T'.size = 94 ∧ T'[0]? = some (.slice ap0 p.length pc0) ∧ T'[3]? = some (pb tb) ∧ T'[5]? = some (pb sb)) ∧ g = G (fSh T' (.code cdH2 :: [])) [] ∧ Kn W₁ [(sb, Obj.cells #[.int .i64 0] 3 (0, 0))] w) (fun g w h => by
    obtain ⟨a', h0, T, sb, rfl, h2, h3, h4, h5, h6⟩ := h
    exact ⟨sb, T, ⟨h2, h3, h4, h5⟩, h0, h6⟩) (fun _ _ h => h)
  obtain ⟨sb, H⟩ := HB'.ex
  obtain ⟨T2, H⟩ := H.ex
  obtain ⟨⟨b1, b2, b3, b4⟩, H⟩ := H.and
  obtain ⟨W₂, hk2, H⟩ := H.anchor
  have e2 : Ext Vn W₁ W₂ := hk2.1
  obtain ⟨hslo, hsbx⟩ := hk2.2 _ (.head _)
  simp only at hslo hsbx
  have hslt : sb < W₂.heap.size := (Array.getElem?_eq_some_iff.1 hsbx).1
  obtain ⟨n2, p2⟩ := c_s2 (main := (0 == 0)) (hS0 W₂) (sP := .slice ap0 p.length pc0) (s3 := pb tb) (s5 := pb sb)
  refine (H.walk gone_stb fun g w hK => ⟨n2 + 1, by
    obtain ⟨rfl, hK⟩ := hK
    rw [cdH2_eq]
    exact goes_partH (fun a w w' h r => by
      obtain ⟨T, h1, h2, h3, h4, h5, h6, h7⟩ := h
      exact ⟨T, h1, h2, h3, h4, h5, h6, trs h7 r⟩) (fun w' hr => p2 _ T2 w' b1 b2 b3 b4 (trs hK hr))⟩).bind fun mC TC HC => ?_
  have HC' := HC.mono (K' := fun g w => ∃ T', (T'.size = 94 ∧ T'[0]? = some (.slice ap0 p.length pc0) ∧ T'[3]? = some (pb tb) ∧ T'[5]? = some (pb sb) ∧ T'[6]? = some (.slice none 0 0)) ∧ g = G (fSh T' (.code cdH3 :: [])) [] ∧ Ext Vn W₂ w) (fun g w h => by
    obtain ⟨a', h0, T, rfl, h2, h3, h4, h5, h6, h7⟩ := h
    exact ⟨T, ⟨h2, h3, h4, h5, h6⟩, h0, h7⟩) (fun _ _ h => h)
  obtain ⟨T3, H⟩ := HC'.ex
  obtain ⟨⟨c1, c2, c3, c4, c5⟩, H⟩ := H.and
  obtain ⟨n3, p3⟩ := c_s3 (main := (0 == 0)) (hS0 W₂) (sP := .slice ap0 p.length pc0) (sb := sb) ha (cell_ext e2 h30) (cell_ext e2 h31) (cell_ext e2 h32)
  refine (H.walk gone_stb fun g w hK => ⟨n3 + 1, by
    obtain ⟨rfl, hK⟩ := hK
    rw [cdH3_eq]
    exact goes_partH (fun a w w' h r => by
      obtain ⟨T, u, h1, h2, h3, h4, h5, h6, h7, h8⟩ := h
      exact ⟨T, u, h1, h2, h3, h4, h5, h6, trs h7 r, ownsRow_ext h8 r fun _ _ => id⟩) (fun w' hr => p3 _ T3 w' c1 c2 c3 c4 c5 (trs hK hr))⟩).bind fun mD TD HD => ?_
  have HD' := HD.mono (K' := fun g w => ∃ au uc T', (T'.size = 94 ∧ T'[0]? = some (.slice ap0 p.length pc0) ∧ T'[3]? = some (pb tb) ∧ T'[5]? = some (pb sb) ∧ T'[6]? = some (.slice au 3 uc) ∧ (∀ b o, au = some ⟨b, o, none⟩ → b ≠ sb)) ∧ g = G (fSh T' (.code cdH4 :: [])) [] ∧ (Ext Vn W₂ w ∧ VRow w au (tvL sb a 3))) (fun g w h => by
    obtain ⟨a', h0, T, u, rfl, h2, h3, h4, h5, h6, h7, h8⟩ := h
    obtain ⟨au, uc, rfl, hv, _⟩ := own_vrow h8
    exact ⟨au, uc, T, ⟨h2, h3, h4, h5, by rw [h6]; simp [tvL], fun b o hb => by
      have := own_lo h8 (b := b) (o := o) (k := (tvL sb a 3).length) (c := uc) (by rw [hb])
      omega⟩, h0, h7, hv⟩) (fun _ _ h => h)
  obtain ⟨au, H⟩ := HD'.ex
  obtain ⟨uc, H⟩ := H.ex
  obtain ⟨T4, H⟩ := H.ex
  obtain ⟨⟨d1, d2, d3, d4, d5, d6⟩, H⟩ := H.and
  obtain ⟨W₃, ⟨e3, hvt⟩, H⟩ := H.anchor
  have e13 : Ext Vn W W₃ := (e1.trans e2).trans e3
  -- valid
  obtain ⟨P, hP⟩ : ∃ P, P = validP p 3 := ⟨_, rfl⟩
  have hPx : ∀ x ∈ P, x < 3 := by
    rw [hP]
    intro x hx
    unfold validP at hx
    rw [if_neg (by decide)] at hx
    obtain ⟨y, _, rfl⟩ := List.mem_map.1 hx
    exact Nat.mod_lt _ (by omega)
  have hPl : P.length ≤ 60 := by
    rw [hP]
    unfold validP
    rw [if_neg (by decide), List.length_map]
    omega
  have hp3 : U8Row W₃ (.slice ap0 p.length pc0) p := by
    refine ⟨ap0, pc0, rfl, ?_⟩
    rcases hpr with h | ⟨b, o, rfl, hc⟩
    · exact .inl h
    · exact .inr ⟨b, o, rfl, fun k x hk => cell_ext e13 (hc k x hk)⟩
  obtain ⟨kv, cv⟩ := c_valid (main := (0 == 0)) (hS0 W₃) hp3 3 (by omega) (by decide) hx
  rw [← hP] at cv
  refine (H.walk gone_stb fun g w hK => ⟨10 + kv + 3 + 20, by
    obtain ⟨rfl, hK⟩ := hK
    exact hw_val (mn := (0 == 0)) (Q := fun w => Ext Vn W₃ w) (fun _ _ h r => h.trans r) (Rv := fun r w => ∃ a c, r = .slice a P.length c ∧ VRow w a (ints P) ∧ ∀ b o, a = some ⟨b, o, none⟩ → b ≠ sb) w hK T4 d1 d2 d3 d4 d5 (fun w hw => (cv w hw).mono fun r w' h => ⟨h.1, by
      obtain ⟨a, c, h1, h2, h3⟩ := own_vrow h.2
      refine ⟨a, c, by rw [h1, h3], h2, fun b o hb => ?_⟩
      have := own_lo h.2 (b := b) (o := o) (k := (ints P).length) (c := c) (by rw [h1, hb])
      have := e3.size
      omega⟩) (fun r w w' h e => by obtain ⟨a, c, h1, h2, h3⟩ := h; exact ⟨a, c, h1, vrow_ext h2 e, h3⟩)⟩).bind fun mE TE HE => ?_
  have HE' := HE.mono (K' := fun g w => ∃ ap pc T', (T'.size = 94 ∧ T'[3]? = some (pb tb) ∧ T'[5]? = some (pb sb) ∧ T'[6]? = some (.slice au 3 uc) ∧ T'[9]? = some (.slice ap P.length pc) ∧ (∀ b o, ap = some ⟨b, o, none⟩ → b ≠ sb)) ∧ g = G (fSh T' (.code cdH5 :: [])) [] ∧ (Ext Vn W₃ w ∧ VRow w ap (ints P))) (fun g w h => by
    obtain ⟨r, T', ⟨h1, h2, h3, h4, h5⟩, h6, h7, a, c, rfl, h8, h9⟩ := h
    exact ⟨a, c, T', ⟨h1, h2, h3, h4, h5, h9⟩, h6, h7, h8⟩) (fun _ _ h => h)
  obtain ⟨ap, H⟩ := HE'.ex
  obtain ⟨pc, H⟩ := H.ex
  obtain ⟨T5, H⟩ := H.ex
  obtain ⟨⟨f1, f2, f3, f4, f5, f6⟩, H⟩ := H.and
  obtain ⟨W₄, ⟨e4, hvp⟩, H⟩ := H.anchor
  have hsb4 : W₄.heap[sb]? = some (.cells #[.int .i64 0] 3 (0, 0)) := same_of (same_of hsbx e3) e4
  have k4 : Keep W W₄ := keep_of (e13.trans e4)
  -- the run
  refine (H.walk gone_stb fun g w hK => ⟨20, by
    obtain ⟨rfl, hK⟩ := hK
    exact hw_in (mn := (0 == 0)) (Q := fun w => Ext Vn W₄ w) (fun _ _ h r => h.trans r) w hK T5 f1 f2 f3 f4 f5⟩).bind fun mF TF HF => ?_
  obtain ⟨T6, H⟩ := HF.ex
  obtain ⟨⟨g1, g2, g3, g4⟩, H⟩ := H.and
  have hrl : (tvL sb a 3).length = 3 := by simp [tvL]
  have H' := H.mono (K' := fun g w => g = G (fRun (entryT (.slice ap P.length pc) (.slice au (tvL sb a 3).length uc)) [.code bodyM]) ((base 3).at ⟨T6, []⟩ (.inRegion opsHd (2 :: [3, 4, 5, 6, 7]) :: .code cdH6 :: []) :: []) ∧ PreT (fun _ => False) au ap (tvL sb a 3) P (fun W => addersT W sb (tm3 a) 3) (fun _ => (0 : Nat)) sb w ∧ Ext Vn W₄ w) (fun g w h => by
    obtain ⟨h1, h2⟩ := h
    exact ⟨by rw [h1, hrl], preS (same_of hsb4 h2) (vrow_ext (vrow_ext hvt e4) h2) (vrow_ext hvp h2) d6 f6, h2⟩) (fun _ _ h => h)
  refine (run_tasks (Q := fun w => Ext Vn W₄ w) (Nat.le_refl 1) (by omega) (by omega) (fun i hi => by rw [hrl]; exact hPx i hi) (fun v hv => by
    obtain ⟨k, _, rfl⟩ := List.mem_map.1 hv
    exact ⟨_, _, rfl⟩) H').bind fun mG TG HG => ?_
  obtain ⟨Sh₅, HG⟩ := HG
  have HG' := HG.mono (K' := fun g w => ∃ (Wx : World) (ae : Option Addr) (ce : Nat), (PreT (fun _ => False) au ap (tvL sb a 3) P (fun W => addersT W sb (tm3 a) 3) (fun _ => (0 : Nat)) sb Wx) ∧ g = G ((base 3).at (Act.put ⟨T6, []⟩ ((opsHd[2]?).bind (·.dst)) (.tuple #[.slice ae ((addersT Wx sb (tm3 a) 3).fin (0 : Nat) 3 P).E.length ce, .int .i64 (0 : Nat)])) (.inRegion opsHd [3, 4, 5, 6, 7] :: .code cdH6 :: [])) [] ∧
      (ShOk Sh₅ w ∧ Keep W w ∧ (∀ b, b < W₄.heap.size → b ≠ sb → w.heap[b]? = W₄.heap[b]?) ∧ w.heap[sb]? = some (.cells #[.int .i64 (mOf Wx sb a P : Nat)] 3 (0, 0)) ∧ EvRow w ae ((addersT Wx sb (tm3 a) 3).fin (0 : Nat) 3 P).E)) (fun g w h => by
    obtain ⟨Wx, u, h1, hP', hQ, hsz, hfr, htm, hsh, hrow⟩ := h
    rw [hrl] at htm hrow
    obtain ⟨ae, ce, rfl, hev⟩ := own_evrow hrow
    refine ⟨Wx, ae, ce, hP', h1, hsh, ?_, fun b hb hne => ?_, htm.2, hev⟩
    · have hkx := k4.trans (keep_of hQ)
      exact ⟨Nat.le_trans hkx.1 hsz, fun b hb => (hfr b (Nat.lt_of_lt_of_le hb hkx.1) (by have := e1.size; omega)).trans (hkx.2 b hb)⟩
    · exact (hfr b (Nat.lt_of_lt_of_le hb hQ.size) hne).trans (hQ.same b hb id)) (fun _ _ h => h)
  obtain ⟨Wx, H⟩ := HG'.ex
  obtain ⟨ae, H⟩ := H.ex
  obtain ⟨ce, H⟩ := H.ex
  obtain ⟨hPx', H⟩ := H.and
  obtain ⟨W₅, ⟨sh5, k5, fr5, sb5, ev5⟩, H⟩ := H.anchor
  have old : ∀ {k : Nat} {x : Value}, W₁.cell? ⟨tb, k, none⟩ = some x → W₅.cell? ⟨tb, k, none⟩ = some x := fun {k x} h => by
    have h4 := cell_ext e4 (cell_ext e3 (cell_ext e2 h))
    have hlt := (Array.getElem?_eq_some_iff.1 htb).1
    rw [cell_of_block (fr5 tb (block_of_cell h4) (by omega))]
    exact h4
  have hvp5 : VRow W₅ ap (ints P) := by
    rcases hvp with h | ⟨b, o, hb, hc⟩
    · exact .inl h
    · exact .inr ⟨b, o, hb, fun k x hk => by
        rw [cell_of_block (fr5 b (block_of_cell (hc k x hk)) (f6 b o hb))]
        exact hc k x hk⟩
  refine tailH (W := W) (m := mOf Wx sb a P) (a := a) (sb := sb) (tb := tb) (pc := pc) (by omega) sh5 k5 ha (old h30) (old h31) (old h32) (by simp [World.cell?, sb5]) hvp5 (by omega) hPx ev5 (fun s hs => ?_) T6 g1 g2 g3 g4 H
  obtain ⟨s2, ⟨s1, ⟨s0, hs0, q0⟩, q1⟩, q2⟩ := hs
  rw [hs0] at q0
  have hR := shr_fin hPx'.ok hPx rel0 q0 q1 q2
  exact ⟨hR.v, hR.e⟩
#print axioms law_shares
end
end Go.Proofs.YtggfcdhkgldbfaaDoor
