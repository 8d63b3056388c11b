/-
  PARTS of a claim, merged by segs.py: CwAwk3, CwLaw.
-/
import Derived.Test.YtggfcdhkgldbfaaC27
namespace Go.Proofs.Ytggfcdhkgldbfaa
set_option linter.unusedSimpArgs false
set_option linter.unusedVariables false

/-! ### CwAwk3 -/
section
set_option linter.unusedSimpArgs false
open Go Go.Conc Go.RowKit Go.ConcR.Gen Cw

theorem Keep.trans {a b c : World} (h : Keep a b) (k : Keep b c) : Keep a c := ⟨Nat.le_trans h.1 k.1, fun x hx => (k.2 x (Nat.lt_of_lt_of_le hx h.1)).trans (h.2 x hx)⟩
theorem Keep.ext {a b c : World} (h : Keep a b) (r : Ext Vn b c) : Keep a c := h.trans ⟨r.size, fun x hx => r.same x hx id⟩
theorem keep_of {a b : World} (r : Ext Vn a b) : Keep a b := ⟨r.size, fun x hx => r.same x hx id⟩
theorem evrow_ext {W w : World} {a : Option Addr} {E : List (Int × ByteArray)} (h : EvRow W a E) (r : Ext Vn W w) : EvRow w a E := by
  rcases h with h | ⟨b, o, ha, hc⟩
  · exact .inl h
  · exact .inr ⟨b, o, ha, fun k x hk => ⟨cell_ext r (hc k x hk).1, cell_ext r (hc k x hk).2⟩⟩
abbrev usA (sa sb : Nat) : List Value := [.slice (some ⟨sa, 0, none⟩) 2 2, .slice (some ⟨sb, 0, none⟩) 1 1]
abbrev LA : List (List ByteArray) := [[strA, strB], [strC]]
abbrev EA : List (Int × ByteArray) := [(1, strC), (0, strA), (0, strB)]
theorem refA : refRun LA [1, 0] = EA := by
  simp [refRun, refStep, refDrain, itr, Sk, List.range, List.range.loop]
theorem knA_row {W w : World} {pa sa sb sl : Nat} (h : KnA W pa sa sb sl w) : VRow w (some ⟨sl, 0, none⟩) (usA sa sb) ∧ VRow w (some ⟨pa, 0, none⟩) (ints [1, 0]) ∧ ∀ k, ∃ a c, slK (usA sa sb) k = .slice a (Sk LA k).length c ∧ Nts a (Sk LA k) w := by
  have h1 := (h.2 (sl, Obj.cells #[.slice (some ⟨sa, 0, none⟩) 2 2, .slice (some ⟨sb, 0, none⟩) 1 1] 38 (0, 0)) (by simp)).2
  have h2 := (h.2 (sb, Obj.cells #[.string strC] 9 (0, 0)) (by simp)).2
  have h3 := (h.2 (sa, Obj.cells #[.string strA, .string strB] 9 (0, 0)) (by simp)).2
  have h4 := (h.2 (pa, Obj.cells #[.int .i64 1, .int .i64 0] 3 (0, 0)) (by simp)).2
  simp only at h1 h2 h3 h4
  have two : ∀ {b : Nat} {x y : Value} {ty : TypeId}, w.heap[b]? = some (.cells #[x, y] ty (0, 0)) → ∀ (k : Nat) (u : Value), [x, y][k]? = some u → w.cell? ⟨b, 0 + k, none⟩ = some u := by
    intro b x y ty hb k u hk
    match k with
    | 0 => simp at hk; subst hk; simp [World.cell?, hb]
    | 1 => simp at hk; subst hk; simp [World.cell?, hb]
    | k + 2 => simp at hk
  refine ⟨.inr ⟨sl, 0, rfl, two h1⟩, .inr ⟨pa, 0, rfl, two h4⟩, fun k => ?_⟩
  match k with
  | 0 =>
    refine ⟨some ⟨sa, 0, none⟩, 2, rfl, .inr ⟨sa, 0, rfl, fun k s hk => ?_⟩⟩
    refine two h3 k _ ?_
    match k with
    | 0 => simp [Sk] at hk; subst hk; rfl
    | 1 => simp [Sk] at hk; subst hk; rfl
    | k + 2 => simp [Sk] at hk
  | 1 =>
    refine ⟨some ⟨sb, 0, none⟩, 1, rfl, .inr ⟨sb, 0, rfl, fun k s hk => ?_⟩⟩
    match k with
    | 0 => simp [Sk] at hk; subst hk; simp [World.cell?, h2]
    | k + 1 => simp [Sk] at hk
  | k + 2 => exact ⟨none, 0, rfl, .inl rfl⟩
set_option maxHeartbeats 2000000 in
theorem awake_call [Ref] {Sh : Loc → Prop} {γ : Nat} (hγ : 1 ≤ γ) {Q : World → Prop} {b₀ : Frame} {a₀ : Act} {ops : Array Oper} {j : Nat} {rest : List Nat} {kk : List Item} {cs : List Frame} {m : Machine} {T : Trace}
    (H : Held Try.prog (Cx0 Sh) Vn 0 0 γ Gone (fun g w => g = G (fAw #[undef, undef, undef, undef, undef, undef, undef, undef, undef, undef, undef, undef, undef, undef, undef, undef, undef, undef, undef, undef, undef, undef] [.code body9]) (b₀.at a₀ (.inRegion ops (j :: rest) :: kk) :: cs) ∧ ShOk Sh w ∧ Q w) m T) :
    Lands Try.prog m T (fun m' T' => ∃ Sh', Held Try.prog (Cx0 Sh') Vn 0 0 (γ + 2) Gone (fun g w => ∃ W, g = G (b₀.at (a₀.put ((ops[j]?).bind (·.dst)) (.bool true)) (.inRegion ops rest :: kk)) cs ∧ Q W ∧ Keep W w ∧ ShOk Sh' w) m' T') := by
  obtain ⟨gs, W, sl, q, Rd, B, cn, g, rfl, hgs, hg, ⟨rfl, hS, hQ⟩, hB, C⟩ := H
  have H₀ : Held Try.prog (Cx0 Sh) Vn 0 0 γ Gone (fun g w => g = G (fAw #[undef, undef, undef, undef, undef, undef, undef, undef, undef, undef, undef, undef, undef, undef, undef, undef, undef, undef, undef, undef, undef, undef] [.code body9]) (b₀.at a₀ (.inRegion ops (j :: rest) :: kk) :: cs) ∧ Kn W [] w) (crowd gs W sl) T := ⟨gs, W, sl, q, Rd, B, cn, _, rfl, hgs, hg, ⟨rfl, Ext.refl Vn W, by simp⟩, hB, C⟩
  clear hg hB C
  refine (H₀.walk gone_stb fun g w hK => ⟨20, by obtain ⟨rfl, hK⟩ := hK; exact a_begin (mn := (0 == 0)) _ w hK⟩).bind fun m₁ T₁ H₁ => ?_
  obtain ⟨pa, H₁⟩ := H₁.ex
  obtain ⟨sa, H₁⟩ := H₁.ex
  obtain ⟨sb, H₁⟩ := H₁.ex
  obtain ⟨sl, H₁⟩ := H₁.ex
  obtain ⟨Ts, H₁⟩ := H₁.ex
  obtain ⟨⟨s1, s2, s3⟩, H₁⟩ := H₁.and
  refine (H₁.walk (K' := fun g w => ∃ r T', T'.size = 22 ∧ g = G (fRun (entryT (.slice (some ⟨pa, 0, none⟩) 2 2) r) [.code bodyM]) (fAw T' (.inRegion ops9a (5 :: [6, 7, 8, 9, 10]) :: .code (rt (rt body9)) :: []) :: (b₀.at a₀ (.inRegion ops (j :: rest) :: kk) :: cs)) ∧ KnA W pa sa sb sl w ∧ ∃ a c, r = .slice a 2 c ∧ VRow w a (ifs (usA sa sb))) gone_stb fun g w hK => ?_).bind fun m₂ T₂ H₂ => ?_
  · obtain ⟨rfl, hK⟩ := hK
    obtain ⟨kc, hkc⟩ := c_tasks (main := (0 == 0)) (pre_ext hS hK.1) 2 (knA_row hK).1 (by simp) (fun u hu => by simp at hu; rcases hu with rfl | rfl <;> exact ⟨_, _, _, rfl⟩)
    refine ⟨10 + kc + 3, a_run (mn := (0 == 0)) (Q := KnA W pa sa sb sl) (fun w w' h r => h.rl r) (Rs' := fun r w => ∃ a c, r = .slice a 2 c ∧ VRow w a (ifs (usA sa sb))) (fun r w w' h e => by obtain ⟨a, c, h1, h2⟩ := h; exact ⟨a, c, h1, vrow_ext h2 e⟩) _ w hK Ts s1 s2 s3 ((hkc w (Ext.refl Vn w)).mono fun r w' h => ⟨hK.rl h.1, ?_⟩)⟩
    obtain ⟨a, c, h1, h2, _⟩ := own_vrow h.2
    exact ⟨a, c, h1, h2⟩
  -- into sched.Run
  have H₂' := H₂.mono (K' := fun g w => ∃ a c T', T'.size = 22 ∧ (g = G (fRun (entryT (.slice (some ⟨pa, 0, none⟩) 2 2) (.slice a 2 c)) [.code bodyM]) (fAw T' (.inRegion ops9a (5 :: [6, 7, 8, 9, 10]) :: .code (rt (rt body9)) :: []) :: (b₀.at a₀ (.inRegion ops (j :: rest) :: kk) :: cs)) ∧ Pre Sh a (some ⟨pa, 0, none⟩) (usA sa sb) LA [1, 0] w ∧ Keep W w)) (fun g w h => by
    obtain ⟨r, T', h1, h2, h3, a, c, rfl, h5⟩ := h
    exact ⟨a, c, T', h1, h2, ⟨pre_ext hS h3.1, h5, (knA_row h3).2.1, (knA_row h3).2.2⟩, keep_of h3.1⟩) (fun _ _ h => h)
  obtain ⟨al, H₃⟩ := H₂'.ex
  obtain ⟨lc, H₃⟩ := H₃.ex
  obtain ⟨Ts₂, H₃⟩ := H₃.ex
  obtain ⟨p1, H₃⟩ := H₃.and
  refine (run_notes (us := usA sa sb) (L := LA) (ps := [1, 0]) (b₀ := base 9) (a₀ := ⟨Ts₂, []⟩) (ops := ops9a) (j := 5) (rest := [6, 7, 8, 9, 10]) (kk := .code (rt (rt body9)) :: []) hγ (by simp) (by simp) (fun i hi => by simp at hi; rcases hi with rfl | rfl <;> simp) (fun u hu => by simp at hu; rcases hu with rfl | rfl <;> exact ⟨_, _, _, rfl⟩) (fun k => by
    match k with
    | 0 => simp [Sk]
    | 1 => simp [Sk]
    | k + 2 => simp [Sk]) H₃).bind fun m₄ T₄ h => ?_
  obtain ⟨Sh', H₄⟩ := h
  refine Lands.mono ?_ fun m' T' h => ⟨Sh', h⟩
  have H₅ := H₄.mono (K' := fun g w => ∃ a c, g = G ((base 9).at (Act.put ⟨Ts₂, []⟩ ((ops9a[5]?).bind (·.dst)) (.tuple #[.slice a 3 c, .int .i64 0])) (.inRegion ops9a [6, 7, 8, 9, 10] :: .code (rt (rt body9)) :: [])) (b₀.at a₀ (.inRegion ops (j :: rest) :: kk) :: cs) ∧ EvRow w a EA ∧ Keep W w ∧ ShOk Sh' w) (fun g w h => by
    obtain ⟨W₁, u, rfl, _, hkW, hk, hsh, hrow⟩ := h
    have hE : ((notesT W₁ (usA sa sb) LA).fin () 2 [1, 0]).E = EA := by
      rw [fin_ref (n := 2) rfl (fun k hk => by simp at hk; rcases hk with rfl | rfl <;> simp), refA]
    change w.ownsRow W₁.heap.size 40 2 u ((notesT W₁ (usA sa sb) LA).fin () 2 [1, 0]).E.length (evCells ((notesT W₁ (usA sa sb) LA).fin () 2 [1, 0]).E) at hrow
    rw [hE] at hrow
    obtain ⟨a, c, rfl, h2⟩ := own_evrow hrow
    exact ⟨a, c, rfl, h2, hkW.trans hk, hsh⟩) (fun _ _ h => h)
  obtain ⟨ae, H₅⟩ := H₅.ex
  obtain ⟨ce, H₅⟩ := H₅.ex
  obtain ⟨gs, W₂, sl₂, q, Rd, B, cn, g, rfl, hgs, hg, ⟨rfl, hev, hkW, hsh⟩, hB, C⟩ := H₅
  have H₆ : Held Try.prog (Cx0 Sh') Vn 0 0 (γ + 2) Gone (fun g w => g = G ((base 9).at (Act.put ⟨Ts₂, []⟩ ((ops9a[5]?).bind (·.dst)) (.tuple #[.slice ae 3 ce, .int .i64 0])) (.inRegion ops9a [6, 7, 8, 9, 10] :: .code (rt (rt body9)) :: [])) (b₀.at a₀ (.inRegion ops (j :: rest) :: kk) :: cs) ∧ Kn W₂ [] w) (crowd gs W₂ sl₂) T₄ := ⟨gs, W₂, sl₂, q, Rd, B, cn, _, rfl, hgs, hg, ⟨rfl, Ext.refl Vn W₂, by simp⟩, hB, C⟩
  clear hg hB C
  refine (H₆.walk gone_stb fun g w hK => ⟨30, by obtain ⟨rfl, hK⟩ := hK; exact a_same (mn := (0 == 0)) (u := .slice ae 3 ce) _ w hK Ts₂ p1⟩).bind fun m₇ T₇ H₇ => ?_
  obtain ⟨sb₂, H₇⟩ := H₇.ex
  obtain ⟨Ts₃, H₇⟩ := H₇.ex
  obtain ⟨⟨q1, q2, q3, q4⟩, H₇⟩ := H₇.and
  refine (H₇.walk (K' := fun g w => g = G (b₀.at (a₀.put ((ops[j]?).bind (·.dst)) (.bool true)) (.inRegion ops rest :: kk)) cs ∧ Ext Vn W₂ w) gone_stb fun g w hK => ?_).mono fun m' T' H => H.mono (fun g w h => ⟨W, h.1, hQ, hkW.ext h.2, pre_ext hsh h.2⟩) (fun _ _ h => h)
  obtain ⟨rfl, hK⟩ := hK
  have hb := (hK.2 (sb₂, Obj.cells #[.int .i64 1, .string strC, .int .i64 0, .string strA, .int .i64 0, .string strB] 41 (0, 0)) (by simp)).2
  simp only at hb
  have h2 : EvRow w (some ⟨sb₂, 0, none⟩) EA := .inr ⟨sb₂, 0, rfl, fun k x hk => by
    match k with
    | 0 => simp at hk; subst hk; simp [World.cell?, hb]
    | 1 => simp at hk; subst hk; simp [World.cell?, hb]
    | 2 => simp at hk; subst hk; simp [World.cell?, hb]
    | k + 3 => simp at hk⟩
  obtain ⟨kc, hkc⟩ := c_same (main := (0 == 0)) (pre_ext hsh hK.1) ce 3 (evrow_ext hev hK.1) h2 (by simp)
  exact ⟨20 + kc + 3, a_out (mn := (0 == 0)) (Q := fun w => Ext Vn W₂ w) (fun w w' h r => h.trans r) hK.1 cs Ts₃ q1 q2 q3 q4 ((hkc w (Ext.refl Vn w)).mono fun r w' h => ⟨by rw [h.1]; simp, hK.1.trans h.2⟩)⟩
end

/-! ### CwLaw -/
section
set_option linter.unusedSimpArgs false
open Go Go.Conc Go.RowKit Go.ConcR.Gen Cw

noncomputable def bodyL : Code := Try.f3.body.getD .skip
noncomputable def restL : Code := rt (rt (rt bodyL))
noncomputable def opsL1 : Array Oper := opsOf (lf (rt bodyL))
noncomputable def opsL2 : Array Oper := opsOf (lf (lf (rt (rt bodyL))))
noncomputable def condL : Code := rt (lf (rt (rt bodyL)))
def yesC : Code → Code
  | .cond _ x _ => x
  | _ => .skip
noncomputable def opsL3 : Array Oper := opsOf (lf (yesC condL))
noncomputable def opsL4 : Array Oper := opsOf (lf restL)
noncomputable def opsL5 : Array Oper := opsOf (lf (rt restL))
abbrev fLw (T : Array Value) (k : List Item) : Frame := (base 3).at ⟨T, []⟩ k
abbrev und22 : Array Value := #[undef, undef, undef, undef, undef, undef, undef, undef, undef, undef, undef, undef, undef, undef, undef, undef, undef, undef, undef, undef, undef, undef]
section
variable {Sh : Loc → Prop} {mn : Bool} {Q : World → Prop} (hrl : ∀ w w', Q w → Ext Vn w w' → Q w')
include hrl
set_option maxRecDepth 100000 in
set_option maxHeartbeats 2000000 in
theorem l_valid {v : Value} {al : Option Addr} {n lcap kc : Nat} {Rv : Value → World → Prop} (w : World) (hF : Q w) (hkc : ∀ w, Q w → CallsC Try.prog mn (Ext Vn) (HDq (Cx0 Sh)) 7 #[v, .int .i64 n] kc w (fun r w' => Q w' ∧ Rv r w')) (hRs : ∀ r w w', Rv r w → Ext Vn w w' → Rv r w') :
    Goes Try.prog mn (Ext Vn) (HDq (Cx0 Sh)) (fun g w => ∃ r T', (T'.size = 36 ∧ T'[1]? = some (.slice al n lcap) ∧ T'[11]? = some r) ∧ g = G (fLw T' (.inRegion opsL1 [4] :: .code (rt (rt bodyL)) :: [])) [] ∧ Q w ∧ Rv r w) (10 + kc + 3 + 20)
      (G (fLw #[v, .slice al n lcap, undef, undef, undef, undef, undef, undef, undef, undef, undef, undef, undef, undef, undef, undef, undef, undef, undef, undef, undef, undef, undef, undef, undef, undef, undef, undef, undef, undef, undef, undef, undef, undef, undef, undef] [.code bodyL]) []) w := by
  simp only [fLw, fAw, opsL1, opsL2, opsL3, opsL4, opsL5, condL, restL, bodyL, body9, yesC, inner, rt, lf, opsOf, Try.f3, Option.getD_some]
  refine Goes.step rfl (fun w hr => ?_)
  replace hF := (hrl _ _) hF hr
  clear hr
  rw [stepG_seq]
  simp only [goes_go]
  refine ⟨hdq_idle _ _, ?_⟩
  refine Goes.step rfl (fun w hr => ?_)
  replace hF := (hrl _ _) hF hr
  clear hr
  rw [stepG_region]
  simp only [goes_go, List.size_toArray, List.length_cons, List.length_nil, Nat.reduceAdd, Nat.zero_add, List.range, List.range.loop]
  refine ⟨hdq_idle _ _, ?_⟩
  refine Goes.step rfl (fun w hr => ?_)
  replace hF := (hrl _ _) hF hr
  clear hr
  refine goes_oper_k rfl rfl (by k_ne) (fun K hK => ?_)
  go_simp
  refine hK _ _ ⟨?_, ?_⟩
  · rw [listed_nil (by simp [go_sem])]; exact hdq_idle _ _
  clear hK K
  try walk_nrm
  refine Goes.step rfl (fun w hr => ?_)
  replace hF := (hrl _ _) hF hr
  clear hr
  rw [stepG_region_end]
  simp only [goes_go]
  refine ⟨hdq_idle _ _, ?_⟩
  refine Goes.step rfl (fun w hr => ?_)
  replace hF := (hrl _ _) hF hr
  clear hr
  rw [stepG_seq]
  simp only [goes_go]
  refine ⟨hdq_idle _ _, ?_⟩
  refine Goes.step rfl (fun w hr => ?_)
  replace hF := (hrl _ _) hF hr
  clear hr
  rw [stepG_region]
  simp only [goes_go, List.size_toArray, List.length_cons, List.length_nil, Nat.reduceAdd, Nat.zero_add, List.range, List.range.loop]
  refine ⟨hdq_idle _ _, ?_⟩
  refine Goes.step rfl (fun w hr => ?_)
  replace hF := (hrl _ _) hF hr
  clear hr
  refine goes_oper_k rfl rfl (by k_ne) (fun K hK => ?_)
  go_simp
  refine hK _ _ ⟨?_, ?_⟩
  · rw [listed_nil (by simp [go_sem])]; exact hdq_idle _ _
  clear hK K
  try walk_nrm
  refine Goes.step rfl (fun w hr => ?_)
  replace hF := (hrl _ _) hF hr
  clear hr
  refine goes_oper_k rfl rfl (by k_ne) (fun K hK => ?_)
  go_simp
  refine hK _ _ ⟨?_, ?_⟩
  · rw [listed_nil (by simp [go_sem])]; exact hdq_idle _ _
  clear hK K
  try walk_nrm
  refine Goes.step rfl (fun w hr => ?_)
  replace hF := (hrl _ _) hF hr
  clear hr
  refine goes_oper_k rfl rfl (by k_ne) (fun K hK => ?_)
  go_simp
  refine hK _ _ ⟨?_, ?_⟩
  · rw [listed_nil (by simp [go_sem])]; exact hdq_idle _ _
  clear hK K
  try walk_nrm
  refine Goes.mono (n := 10 + kc + 3) ?_ (by omega)
  refine Goes.call (hdq_terms (Cx0 Sh) Vn) (f := 7) (args := #[.tmp 8, .tmp 10]) (ats := #[22, 3]) rfl rfl (by k_ne) rfl (by simp only [List.map_toArray, List.map_cons, List.map_nil, Act.eval]; exact hkc _ hF) (fun r w hv => ?_)
  clear hF hkc
  obtain ⟨hF, hR⟩ := hv
  try walk_nrm
  refine Goes.stop (fun w hr => ⟨r, _, ⟨?_, ?_, ?_⟩, rfl, hrl _ _ hF hr, hRs _ _ _ hR hr⟩) <;> rfl
set_option maxRecDepth 100000 in
set_option maxHeartbeats 2000000 in
theorem l_few {ap al : Option Addr} {np pcap n lcap kc : Nat} {b : Bool} (w : World) (hF : Q w) (T : Array Value) (hT : T.size = 36) (h1 : T[1]? = some (.slice al n lcap)) (h11 : T[11]? = some (.slice ap np pcap)) (hkc : ∀ w, Q w → CallsC Try.prog mn (Ext Vn) (HDq (Cx0 Sh)) 8 #[.slice ap np pcap, .slice al n lcap] kc w (fun r w' => r = .bool b ∧ Q w')) :
    Goes Try.prog mn (Ext Vn) (HDq (Cx0 Sh)) (fun g w => ∃ T', (T'.size = 36 ∧ T'[1]? = some (.slice al n lcap) ∧ T'[5]? = some (.slice ap np pcap) ∧ T'[15]? = some (.bool (!b))) ∧ g = G (fLw T' (.inRegion opsL2 [] :: .code condL :: .code restL :: [])) [] ∧ Q w) (10 + kc + 3 + 20)
      (G (fLw T (.inRegion opsL1 [4] :: .code (rt (rt bodyL)) :: [])) []) w := by
  obtain ⟨v0, v1, v2, v3, v4, v5, v6, v7, v8, v9, v10, v11, v12, v13, v14, v15, v16, v17, v18, v19, v20, v21, v22, v23, v24, v25, v26, v27, v28, v29, v30, v31, v32, v33, v34, v35, rfl⟩ := arr36 T hT
  simp only [List.getElem?_toArray, List.getElem?_cons_zero, List.getElem?_cons_succ, Option.some.injEq] at h1 h11
  subst h1
  subst h11
  simp only [fLw, fAw, opsL1, opsL2, opsL3, opsL4, opsL5, condL, restL, bodyL, body9, yesC, inner, rt, lf, opsOf, Try.f3, Option.getD_some]
  refine Goes.step rfl (fun w hr => ?_)
  replace hF := (hrl _ _) hF hr
  clear hr
  refine goes_oper_k rfl rfl (by k_ne) (fun K hK => ?_)
  go_simp
  refine hK _ _ ⟨?_, ?_⟩
  · rw [listed_nil (by simp [go_sem])]; exact hdq_idle _ _
  clear hK K
  try walk_nrm
  refine Goes.step rfl (fun w hr => ?_)
  replace hF := (hrl _ _) hF hr
  clear hr
  rw [stepG_region_end]
  simp only [goes_go]
  refine ⟨hdq_idle _ _, ?_⟩
  refine Goes.step rfl (fun w hr => ?_)
  replace hF := (hrl _ _) hF hr
  clear hr
  rw [stepG_seq]
  simp only [goes_go]
  refine ⟨hdq_idle _ _, ?_⟩
  refine Goes.step rfl (fun w hr => ?_)
  replace hF := (hrl _ _) hF hr
  clear hr
  rw [stepG_seq]
  simp only [goes_go]
  refine ⟨hdq_idle _ _, ?_⟩
  refine Goes.step rfl (fun w hr => ?_)
  replace hF := (hrl _ _) hF hr
  clear hr
  rw [stepG_region]
  simp only [goes_go, List.size_toArray, List.length_cons, List.length_nil, Nat.reduceAdd, Nat.zero_add, List.range, List.range.loop]
  refine ⟨hdq_idle _ _, ?_⟩
  refine Goes.step rfl (fun w hr => ?_)
  replace hF := (hrl _ _) hF hr
  clear hr
  refine goes_oper_k rfl rfl (by k_ne) (fun K hK => ?_)
  go_simp
  refine hK _ _ ⟨?_, ?_⟩
  · rw [listed_nil (by simp [go_sem])]; exact hdq_idle _ _
  clear hK K
  try walk_nrm
  refine Goes.step rfl (fun w hr => ?_)
  replace hF := (hrl _ _) hF hr
  clear hr
  refine goes_oper_k rfl rfl (by k_ne) (fun K hK => ?_)
  go_simp
  refine hK _ _ ⟨?_, ?_⟩
  · rw [listed_nil (by simp [go_sem])]; exact hdq_idle _ _
  clear hK K
  try walk_nrm
  refine Goes.mono (n := 10 + kc + 3) ?_ (by omega)
  refine Goes.call (hdq_terms (Cx0 Sh) Vn) (f := 8) (args := #[.tmp 12, .tmp 13]) (ats := #[24, 23]) rfl rfl (by k_ne) rfl (by simp only [List.map_toArray, List.map_cons, List.map_nil, Act.eval]; exact hkc _ hF) (fun r w hv => ?_)
  clear hF hkc
  obtain ⟨rfl, hF⟩ := hv
  try walk_nrm
  refine Goes.step rfl (fun w hr => ?_)
  replace hF := (hrl _ _) hF hr
  clear hr
  refine goes_oper_k rfl rfl (by k_ne) (fun K hK => ?_)
  go_simp
  refine hK _ _ ⟨?_, ?_⟩
  · rw [listed_nil (by simp [go_sem])]; exact hdq_idle _ _
  clear hK K
  try walk_nrm
  refine Goes.stop (fun w hr => ⟨_, ⟨?_, ?_, ?_, ?_⟩, rfl, hrl _ _ hF hr⟩) <;> rfl
set_option maxRecDepth 100000 in
set_option maxHeartbeats 2000000 in
theorem l_no {al : Option Addr} {n lcap : Nat} (w : World) (hF : Q w) (T : Array Value) (hT : T.size = 36) (h15 : T[15]? = some (.bool true)) :
    Goes Try.prog mn (Ext Vn) (HDq (Cx0 Sh)) (fun g w => ∃ T', T'.size = 36 ∧ g = G (fAw und22 [.code body9]) (fLw T' (.inRegion opsL3 (0 :: [1]) :: .code .ret :: .code restL :: []) :: []) ∧ Q w) 20
      (G (fLw T (.inRegion opsL2 [] :: .code condL :: .code restL :: [])) []) w := by
  obtain ⟨v0, v1, v2, v3, v4, v5, v6, v7, v8, v9, v10, v11, v12, v13, v14, v15, v16, v17, v18, v19, v20, v21, v22, v23, v24, v25, v26, v27, v28, v29, v30, v31, v32, v33, v34, v35, rfl⟩ := arr36 T hT
  simp only [List.getElem?_toArray, List.getElem?_cons_zero, List.getElem?_cons_succ, Option.some.injEq] at h15
  subst h15
  simp only [fLw, fAw, opsL1, opsL2, opsL3, opsL4, opsL5, condL, restL, bodyL, body9, yesC, inner, rt, lf, opsOf, Try.f3, Option.getD_some]
  refine Goes.step rfl (fun w hr => ?_)
  replace hF := (hrl _ _) hF hr
  clear hr
  rw [stepG_region_end]
  simp only [goes_go]
  refine ⟨hdq_idle _ _, ?_⟩
  refine Goes.step rfl (fun w hr => ?_)
  replace hF := (hrl _ _) hF hr
  clear hr
  rw [stepG_cond (t := true) (by first | rfl | (simp [Act.eval]; omega))]
  simp only [goes_go, if_true, if_false, Bool.false_eq_true, ↓reduceIte]
  refine ⟨hdq_idle _ _, ?_⟩
  refine Goes.step rfl (fun w hr => ?_)
  replace hF := (hrl _ _) hF hr
  clear hr
  rw [stepG_seq]
  simp only [goes_go]
  refine ⟨hdq_idle _ _, ?_⟩
  refine Goes.step rfl (fun w hr => ?_)
  replace hF := (hrl _ _) hF hr
  clear hr
  rw [stepG_region]
  simp only [goes_go, List.size_toArray, List.length_cons, List.length_nil, Nat.reduceAdd, Nat.zero_add, List.range, List.range.loop]
  refine ⟨hdq_idle _ _, ?_⟩
  refine Goes.step rfl (fun w hr => ?_)
  replace hF := (hrl _ _) hF hr
  clear hr
  refine goes_call rfl rfl (by k_ne) rfl Try.func9 rfl rfl ⟨hdq_idle _ _, ?_⟩
  refine Goes.stop (fun w hr => ⟨#[v0, v1, v2, v3, v4, v5, v6, v7, v8, v9, v10, v11, v12, v13, v14, .bool true, v16, v17, v18, v19, v20, v21, v22, v23, v24, v25, v26, v27, v28, v29, v30, v31, v32, v33, v34, v35], ?_, ?_, hrl _ _ hF hr⟩)
  · rfl
  · simp only [fAw, und22, body9, Try.ntmps9, List.map_toArray, List.map_cons, List.map_nil, Act.eval, List.size_toArray, List.length_cons, List.length_nil, Nat.reduceAdd, Nat.reduceSub, Nat.sub_zero, Array.replicate_succ, Array.replicate_zero, List.push_toArray, List.append_toArray, List.nil_append, List.cons_append]
    rfl
set_option maxRecDepth 100000 in
set_option maxHeartbeats 2000000 in
theorem l_yes {ap al : Option Addr} {np pcap n lcap kc : Nat} {Rv : Value → World → Prop} (w : World) (hF : Q w) (T : Array Value) (hT : T.size = 36) (h1 : T[1]? = some (.slice al n lcap)) (h5 : T[5]? = some (.slice ap np pcap)) (h15 : T[15]? = some (.bool false)) (hkc : ∀ w, Q w → CallsC Try.prog mn (Ext Vn) (HDq (Cx0 Sh)) 11 #[.slice al n lcap] kc w (fun r w' => Q w' ∧ Rv r w')) (hRs : ∀ r w w', Rv r w → Ext Vn w w' → Rv r w') :
    Goes Try.prog mn (Ext Vn) (HDq (Cx0 Sh)) (fun g w => ∃ r T', (T'.size = 36 ∧ T'[1]? = some (.slice al n lcap) ∧ T'[5]? = some (.slice ap np pcap)) ∧ g = G (fRun (entryT (.slice ap np pcap) r) [.code bodyM]) (fLw T' (.inRegion opsL4 (3 :: [4, 5, 6, 7, 8]) :: .code (rt restL) :: []) :: []) ∧ Q w ∧ Rv r w) (10 + kc + 3 + 20)
      (G (fLw T (.inRegion opsL2 [] :: .code condL :: .code restL :: [])) []) w := by
  obtain ⟨v0, v1, v2, v3, v4, v5, v6, v7, v8, v9, v10, v11, v12, v13, v14, v15, v16, v17, v18, v19, v20, v21, v22, v23, v24, v25, v26, v27, v28, v29, v30, v31, v32, v33, v34, v35, rfl⟩ := arr36 T hT
  simp only [List.getElem?_toArray, List.getElem?_cons_zero, List.getElem?_cons_succ, Option.some.injEq] at h1 h5 h15
  subst h1
  subst h5
  subst h15
  simp only [fLw, fAw, opsL1, opsL2, opsL3, opsL4, opsL5, condL, restL, bodyL, body9, yesC, inner, rt, lf, opsOf, Try.f3, Option.getD_some]
  refine Goes.step rfl (fun w hr => ?_)
  replace hF := (hrl _ _) hF hr
  clear hr
  rw [stepG_region_end]
  simp only [goes_go]
  refine ⟨hdq_idle _ _, ?_⟩
  refine Goes.step rfl (fun w hr => ?_)
  replace hF := (hrl _ _) hF hr
  clear hr
  rw [stepG_cond (t := false) (by first | rfl | (simp [Act.eval]; omega))]
  simp only [goes_go, if_true, if_false, Bool.false_eq_true, ↓reduceIte]
  refine ⟨hdq_idle _ _, ?_⟩
  refine Goes.step rfl (fun w hr => ?_)
  replace hF := (hrl _ _) hF hr
  clear hr
  rw [stepG_skip]
  simp only [goes_go]
  refine ⟨hdq_idle _ _, ?_⟩
  refine Goes.step rfl (fun w hr => ?_)
  replace hF := (hrl _ _) hF hr
  clear hr
  rw [stepG_seq]
  simp only [goes_go]
  refine ⟨hdq_idle _ _, ?_⟩
  refine Goes.step rfl (fun w hr => ?_)
  replace hF := (hrl _ _) hF hr
  clear hr
  rw [stepG_region]
  simp only [goes_go, List.size_toArray, List.length_cons, List.length_nil, Nat.reduceAdd, Nat.zero_add, List.range, List.range.loop]
  refine ⟨hdq_idle _ _, ?_⟩
  refine Goes.step rfl (fun w hr => ?_)
  replace hF := (hrl _ _) hF hr
  clear hr
  refine goes_oper_k rfl rfl (by k_ne) (fun K hK => ?_)
  go_simp
  refine hK _ _ ⟨?_, ?_⟩
  · rw [listed_nil (by simp [go_sem])]; exact hdq_idle _ _
  clear hK K
  try walk_nrm
  refine Goes.step rfl (fun w hr => ?_)
  replace hF := (hrl _ _) hF hr
  clear hr
  refine goes_oper_k rfl rfl (by k_ne) (fun K hK => ?_)
  go_simp
  refine hK _ _ ⟨?_, ?_⟩
  · rw [listed_nil (by simp [go_sem])]; exact hdq_idle _ _
  clear hK K
  try walk_nrm
  refine Goes.mono (n := 10 + kc + 3) ?_ (by omega)
  refine Goes.call (hdq_terms (Cx0 Sh) Vn) (f := 11) (args := #[.tmp 19]) (ats := #[23]) rfl rfl (by k_ne) rfl (by simp only [List.map_toArray, List.map_cons, List.map_nil, Act.eval]; exact hkc _ hF) (fun r w hv => ?_)
  clear hF hkc
  obtain ⟨hF, hR⟩ := hv
  try walk_nrm
  refine Goes.step rfl (fun w hr => ?_)
  replace hF := hrl _ _ hF hr
  replace hR := hRs _ _ _ hR hr
  clear hr
  refine goes_call rfl rfl (by k_ne) rfl Try.func10 rfl rfl ⟨hdq_idle _ _, ?_⟩
  refine Goes.stop (fun w hr => ⟨r, #[v0, .slice al n lcap, v2, v3, v4, .slice ap np pcap, v6, v7, v8, v9, v10, v11, v12, v13, v14, .bool false, v16, v17, .slice ap np pcap, .slice al n lcap, r, v21, v22, v23, v24, v25, v26, v27, v28, v29, v30, v31, v32, v33, v34, v35], ⟨?_, ?_, ?_⟩, ?_, hrl _ _ hF hr, hRs _ _ _ hR hr⟩)
  · rfl
  · rfl
  · rfl
  · simp only [fRun, entryT, bodyM, Try.ntmps10, List.map_toArray, List.map_cons, List.map_nil, Act.eval, List.size_toArray, List.length_cons, List.length_nil, Nat.reduceAdd, Nat.reduceSub, Array.replicate_succ, Array.replicate_zero, List.push_toArray, List.append_toArray, List.nil_append, List.cons_append]
    rfl
set_option maxRecDepth 100000 in
set_option maxHeartbeats 2000000 in
theorem l_mid {u : Value} {ap al : Option Addr} {np pcap n lcap : Nat} (w : World) (hF : Q w) (T : Array Value) (hT : T.size = 36) (h1 : T[1]? = some (.slice al n lcap)) (h5 : T[5]? = some (.slice ap np pcap)) :
    Goes Try.prog mn (Ext Vn) (HDq (Cx0 Sh)) (fun g w => ∃ T', (T'.size = 36 ∧ T'[1]? = some (.slice al n lcap) ∧ T'[5]? = some (.slice ap np pcap) ∧ T'[6]? = some u ∧ T'[7]? = some (.int .i64 0)) ∧ g = G (fAw und22 [.code body9]) (fLw T' (.inRegion opsL5 (0 :: [1, 2, 3, 4, 5, 6, 7, 8, 9, 10, 11, 12]) :: .code .ret :: []) :: []) ∧ Q w) 20
      (G ((base 3).at (Act.put ⟨T, []⟩ ((opsL4[3]?).bind (·.dst)) (.tuple #[u, .int .i64 0])) (.inRegion opsL4 [4, 5, 6, 7, 8] :: .code (rt restL) :: [])) []) w := by
  obtain ⟨v0, v1, v2, v3, v4, v5, v6, v7, v8, v9, v10, v11, v12, v13, v14, v15, v16, v17, v18, v19, v20, v21, v22, v23, v24, v25, v26, v27, v28, v29, v30, v31, v32, v33, v34, v35, rfl⟩ := arr36 T hT
  simp only [List.getElem?_toArray, List.getElem?_cons_zero, List.getElem?_cons_succ, Option.some.injEq] at h1 h5
  subst h1
  subst h5
  simp only [fLw, fAw, opsL1, opsL2, opsL3, opsL4, opsL5, condL, restL, bodyL, body9, yesC, inner, rt, lf, opsOf, Try.f3, Option.getD_some]
  walk_nrm
  refine Goes.step rfl (fun w hr => ?_)
  replace hF := (hrl _ _) hF hr
  clear hr
  refine goes_oper_k rfl rfl (by k_ne) (fun K hK => ?_)
  go_simp
  refine hK _ _ ⟨?_, ?_⟩
  · rw [listed_nil (by simp [go_sem])]; exact hdq_idle _ _
  clear hK K
  try walk_nrm
  refine Goes.step rfl (fun w hr => ?_)
  replace hF := (hrl _ _) hF hr
  clear hr
  refine goes_oper_k rfl rfl (by k_ne) (fun K hK => ?_)
  go_simp
  refine hK _ _ ⟨?_, ?_⟩
  · rw [listed_nil (by simp [go_sem])]; exact hdq_idle _ _
  clear hK K
  try walk_nrm
  refine Goes.step rfl (fun w hr => ?_)
  replace hF := (hrl _ _) hF hr
  clear hr
  refine goes_oper_k rfl rfl (by k_ne) (fun K hK => ?_)
  go_simp
  refine hK _ _ ⟨?_, ?_⟩
  · rw [listed_nil (by simp [go_sem])]; exact hdq_idle _ _
  clear hK K
  try walk_nrm
  refine Goes.step rfl (fun w hr => ?_)
  replace hF := (hrl _ _) hF hr
  clear hr
  refine goes_oper_k rfl rfl (by k_ne) (fun K hK => ?_)
  go_simp
  refine hK _ _ ⟨?_, ?_⟩
  · rw [listed_nil (by simp [go_sem])]; exact hdq_idle _ _
  clear hK K
  try walk_nrm
  refine Goes.step rfl (fun w hr => ?_)
  replace hF := (hrl _ _) hF hr
  clear hr
  refine goes_oper_k rfl rfl (by k_ne) (fun K hK => ?_)
  go_simp
  refine hK _ _ ⟨?_, ?_⟩
  · rw [listed_nil (by simp [go_sem])]; exact hdq_idle _ _
  clear hK K
  try walk_nrm
  refine Goes.step rfl (fun w hr => ?_)
  replace hF := (hrl _ _) hF hr
  clear hr
  rw [stepG_region_end]
  simp only [goes_go]
  refine ⟨hdq_idle _ _, ?_⟩
  refine Goes.step rfl (fun w hr => ?_)
  replace hF := (hrl _ _) hF hr
  clear hr
  rw [stepG_seq]
  simp only [goes_go]
  refine ⟨hdq_idle _ _, ?_⟩
  refine Goes.step rfl (fun w hr => ?_)
  replace hF := (hrl _ _) hF hr
  clear hr
  rw [stepG_region]
  simp only [goes_go, List.size_toArray, List.length_cons, List.length_nil, Nat.reduceAdd, Nat.zero_add, List.range, List.range.loop]
  refine ⟨hdq_idle _ _, ?_⟩
  refine Goes.step rfl (fun w hr => ?_)
  replace hF := (hrl _ _) hF hr
  clear hr
  refine goes_call rfl rfl (by k_ne) rfl Try.func9 rfl rfl ⟨hdq_idle _ _, ?_⟩
  refine Goes.stop (fun w hr => ⟨#[v0, .slice al n lcap, v2, v3, v4, .slice ap np pcap, u, .int .i64 0, v8, v9, v10, v11, v12, v13, v14, v15, v16, .tuple #[u, .int .i64 0], v18, v19, v20, .tuple #[u, .int .i64 0], u, .int .i64 0, v24, v25, v26, v27, v28, v29, v30, v31, v32, v33, v34, v35], ⟨?_, ?_, ?_, ?_, ?_⟩, ?_, hrl _ _ hF hr⟩)
  · rfl
  · rfl
  · rfl
  · rfl
  · rfl
  · simp only [fAw, und22, body9, Try.ntmps9, List.map_toArray, List.map_cons, List.map_nil, Act.eval, List.size_toArray, List.length_cons, List.length_nil, Nat.reduceAdd, Nat.reduceSub, Nat.sub_zero, Array.replicate_succ, Array.replicate_zero, List.push_toArray, List.append_toArray, List.nil_append, List.cons_append]
    rfl
set_option maxRecDepth 100000 in
set_option maxHeartbeats 2000000 in
theorem l_ref {u : Value} {ap al : Option Addr} {np pcap n lcap kc : Nat} {Rv : Value → World → Prop} (w : World) (hF : Q w) (T : Array Value) (hT : T.size = 36) (h1 : T[1]? = some (.slice al n lcap)) (h5 : T[5]? = some (.slice ap np pcap)) (h6 : T[6]? = some u) (h7 : T[7]? = some (.int .i64 0)) (hkc : ∀ w, Q w → CallsC Try.prog mn (Ext Vn) (HDq (Cx0 Sh)) 13 #[.slice ap np pcap, .slice al n lcap] kc w (fun r w' => Q w' ∧ Rv r w')) (hRs : ∀ r w w', Rv r w → Ext Vn w w' → Rv r w') :
    Goes Try.prog mn (Ext Vn) (HDq (Cx0 Sh)) (fun g w => ∃ r T', (T'.size = 36 ∧ T'[29]? = some (.bool true) ∧ T'[30]? = some u ∧ T'[33]? = some r) ∧ g = G (fLw T' (.inRegion opsL5 [10, 11, 12] :: .code .ret :: [])) [] ∧ Q w ∧ Rv r w) (10 + kc + 3 + 20)
      (G ((base 3).at (Act.put ⟨T, []⟩ ((opsL5[0]?).bind (·.dst)) (.bool true)) (.inRegion opsL5 [1, 2, 3, 4, 5, 6, 7, 8, 9, 10, 11, 12] :: .code .ret :: [])) []) w := by
  obtain ⟨v0, v1, v2, v3, v4, v5, v6, v7, v8, v9, v10, v11, v12, v13, v14, v15, v16, v17, v18, v19, v20, v21, v22, v23, v24, v25, v26, v27, v28, v29, v30, v31, v32, v33, v34, v35, rfl⟩ := arr36 T hT
  simp only [List.getElem?_toArray, List.getElem?_cons_zero, List.getElem?_cons_succ, Option.some.injEq] at h1 h5 h6 h7
  subst h1
  subst h5
  subst h6
  subst h7
  simp only [fLw, fAw, opsL1, opsL2, opsL3, opsL4, opsL5, condL, restL, bodyL, body9, yesC, inner, rt, lf, opsOf, Try.f3, Option.getD_some]
  walk_nrm
  refine Goes.step rfl (fun w hr => ?_)
  replace hF := (hrl _ _) hF hr
  clear hr
  refine goes_oper_k rfl rfl (by k_ne) (fun K hK => ?_)
  go_simp
  refine hK _ _ ⟨?_, ?_⟩
  · rw [listed_nil (by simp [go_sem])]; exact hdq_idle _ _
  clear hK K
  try walk_nrm
  refine Goes.step rfl (fun w hr => ?_)
  replace hF := (hrl _ _) hF hr
  clear hr
  refine goes_oper_k rfl rfl (by k_ne) (fun K hK => ?_)
  go_simp
  refine hK _ _ ⟨?_, ?_⟩
  · rw [listed_nil (by simp [go_sem])]; exact hdq_idle _ _
  clear hK K
  try walk_nrm
  refine Goes.step rfl (fun w hr => ?_)
  replace hF := (hrl _ _) hF hr
  clear hr
  refine goes_oper_k rfl rfl (by k_ne) (fun K hK => ?_)
  go_simp
  refine hK _ _ ⟨?_, ?_⟩
  · rw [listed_nil (by simp [go_sem, *])]; exact hdq_idle _ _
  clear hK K
  try walk_nrm
  refine Goes.step rfl (fun w hr => ?_)
  replace hF := (hrl _ _) hF hr
  clear hr
  refine goes_oper_k rfl rfl (by k_ne) (fun K hK => ?_)
  go_simp
  refine hK _ _ ⟨?_, ?_⟩
  · rw [listed_nil (by simp [go_sem])]; exact hdq_idle _ _
  clear hK K
  try walk_nrm
  refine Goes.step rfl (fun w hr => ?_)
  replace hF := (hrl _ _) hF hr
  clear hr
  refine goes_oper_k rfl rfl (by k_ne) (fun K hK => ?_)
  go_simp
  refine hK _ _ ⟨?_, ?_⟩
  · rw [listed_nil (by simp [go_sem])]; exact hdq_idle _ _
  clear hK K
  try walk_nrm
  refine Goes.step rfl (fun w hr => ?_)
  replace hF := (hrl _ _) hF hr
  clear hr
  refine goes_oper_k rfl rfl (by k_ne) (fun K hK => ?_)
  go_simp
  refine hK _ _ ⟨?_, ?_⟩
  · rw [listed_nil (by simp [go_sem])]; exact hdq_idle _ _
  clear hK K
  try walk_nrm
  refine Goes.step rfl (fun w hr => ?_)
  replace hF := (hrl _ _) hF hr
  clear hr
  refine goes_oper_k rfl rfl (by k_ne) (fun K hK => ?_)
  go_simp
  refine hK _ _ ⟨?_, ?_⟩
  · rw [listed_nil (by simp [go_sem])]; exact hdq_idle _ _
  clear hK K
  try walk_nrm
  refine Goes.step rfl (fun w hr => ?_)
  replace hF := (hrl _ _) hF hr
  clear hr
  refine goes_oper_k rfl rfl (by k_ne) (fun K hK => ?_)
  go_simp
  refine hK _ _ ⟨?_, ?_⟩
  · rw [listed_nil (by simp [go_sem])]; exact hdq_idle _ _
  clear hK K
  try walk_nrm
  refine Goes.mono (n := 10 + kc + 3) ?_ (by omega)
  refine Goes.call (hdq_terms (Cx0 Sh) Vn) (f := 13) (args := #[.tmp 31, .tmp 32]) (ats := #[24, 23]) rfl rfl (by k_ne) rfl (by simp only [List.map_toArray, List.map_cons, List.map_nil, Act.eval]; exact hkc _ hF) (fun r w hv => ?_)
  clear hF hkc
  obtain ⟨hF, hR⟩ := hv
  try walk_nrm
  refine Goes.stop (fun w hr => ⟨r, _, ⟨?_, ?_, ?_, ?_⟩, rfl, hrl _ _ hF hr, hRs _ _ _ hR hr⟩) <;> rfl
set_option maxRecDepth 100000 in
set_option maxHeartbeats 2000000 in
theorem l_out {a a' : Option Addr} {n n' c c' kc : Nat} {b : Bool} (w : World) (hF : Q w) (T : Array Value) (hT : T.size = 36) (h29 : T[29]? = some (.bool true)) (h30 : T[30]? = some (.slice a n c)) (h33 : T[33]? = some (.slice a' n' c')) (hkc : ∀ w, Q w → CallsC Try.prog mn (Ext Vn) (HDq (Cx0 Sh)) 12 #[.slice a n c, .slice a' n' c'] kc w (fun r w' => r = .bool b ∧ Q w')) :
    Goes Try.prog mn (Ext Vn) (HDq (Cx0 Sh)) (fun g w => ∃ T' k, T'[4]? = some (.bool b) ∧ g = G { fLw T' k with mode := .returning } [] ∧ Q w) (10 + kc + 3)
      (G (fLw T (.inRegion opsL5 [10, 11, 12] :: .code .ret :: [])) []) w := by
  obtain ⟨v0, v1, v2, v3, v4, v5, v6, v7, v8, v9, v10, v11, v12, v13, v14, v15, v16, v17, v18, v19, v20, v21, v22, v23, v24, v25, v26, v27, v28, v29, v30, v31, v32, v33, v34, v35, rfl⟩ := arr36 T hT
  simp only [List.getElem?_toArray, List.getElem?_cons_zero, List.getElem?_cons_succ, Option.some.injEq] at h29 h30 h33
  subst h29
  subst h30
  subst h33
  simp only [fLw, fAw, opsL1, opsL2, opsL3, opsL4, opsL5, condL, restL, bodyL, body9, yesC, inner, rt, lf, opsOf, Try.f3, Option.getD_some]
  refine Goes.call (hdq_terms (Cx0 Sh) Vn) (f := 12) (args := #[.tmp 30, .tmp 33]) (ats := #[28, 35]) rfl rfl (by k_ne) rfl (by simp only [List.map_toArray, List.map_cons, List.map_nil, Act.eval]; exact hkc _ hF) (fun r w hv => ?_)
  clear hF hkc
  obtain ⟨rfl, hF⟩ := hv
  try walk_nrm
  refine Goes.step rfl (fun w hr => ?_)
  replace hF := (hrl _ _) hF hr
  clear hr
  refine goes_oper_k rfl rfl (by k_ne) (fun K hK => ?_)
  go_simp
  refine hK _ _ ⟨?_, ?_⟩
  · rw [listed_nil (by simp [go_sem])]; exact hdq_idle _ _
  clear hK K
  try walk_nrm
  refine Goes.step rfl (fun w hr => ?_)
  replace hF := (hrl _ _) hF hr
  clear hr
  refine goes_oper_k rfl rfl (by k_ne) (fun K hK => ?_)
  go_simp
  refine hK _ _ ⟨?_, ?_⟩
  · rw [listed_nil (by simp [go_sem])]; exact hdq_idle _ _
  clear hK K
  try walk_nrm
  refine Goes.step rfl (fun w hr => ?_)
  replace hF := (hrl _ _) hF hr
  clear hr
  rw [stepG_region_end]
  simp only [goes_go]
  refine ⟨hdq_idle _ _, ?_⟩
  refine Goes.step rfl (fun w hr => ?_)
  replace hF := (hrl _ _) hF hr
  clear hr
  rw [stepG_ret']
  simp only [goes_go]
  refine ⟨hdq_idle _ _, ?_⟩
  refine Goes.stop (fun w hr => ⟨_, _, ?_, rfl, hrl _ _ hF hr⟩)
  rfl
set_option maxRecDepth 100000 in
set_option maxHeartbeats 2000000 in
theorem l_out0 (w : World) (hF : Q w) (T : Array Value) (hT : T.size = 36) :
    Goes Try.prog mn (Ext Vn) (HDq (Cx0 Sh)) (fun g w => ∃ T' k, T'[4]? = some (.bool true) ∧ g = G { fLw T' k with mode := .returning } [] ∧ Q w) 10
      (G ((base 3).at (Act.put ⟨T, []⟩ ((opsL3[0]?).bind (·.dst)) (.bool true)) (.inRegion opsL3 [1] :: .code .ret :: .code restL :: [])) []) w := by
  obtain ⟨v0, v1, v2, v3, v4, v5, v6, v7, v8, v9, v10, v11, v12, v13, v14, v15, v16, v17, v18, v19, v20, v21, v22, v23, v24, v25, v26, v27, v28, v29, v30, v31, v32, v33, v34, v35, rfl⟩ := arr36 T hT
  simp only [fLw, fAw, opsL1, opsL2, opsL3, opsL4, opsL5, condL, restL, bodyL, body9, yesC, inner, rt, lf, opsOf, Try.f3, Option.getD_some]
  walk_nrm
  refine Goes.step rfl (fun w hr => ?_)
  replace hF := (hrl _ _) hF hr
  clear hr
  refine goes_oper_k rfl rfl (by k_ne) (fun K hK => ?_)
  go_simp
  refine hK _ _ ⟨?_, ?_⟩
  · rw [listed_nil (by simp [go_sem])]; exact hdq_idle _ _
  clear hK K
  try walk_nrm
  refine Goes.step rfl (fun w hr => ?_)
  replace hF := (hrl _ _) hF hr
  clear hr
  rw [stepG_region_end]
  simp only [goes_go]
  refine ⟨hdq_idle _ _, ?_⟩
  refine Goes.step rfl (fun w hr => ?_)
  replace hF := (hrl _ _) hF hr
  clear hr
  rw [stepG_ret']
  simp only [goes_go]
  refine ⟨hdq_idle _ _, ?_⟩
  refine Goes.stop (fun w hr => ⟨_, _, ?_, rfl, hrl _ _ hF hr⟩)
  rfl
end
end
end Go.Proofs.Ytggfcdhkgldbfaa
