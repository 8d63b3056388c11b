/-
  PARTS of a claim, merged by segs.py: NwAwk3.
-/
import Derived.Test.YtggfcdhkgldbfaaN35
namespace Go.Proofs.Ytggfcdhkgldbfaa
set_option linter.unusedSimpArgs false
set_option linter.unusedVariables false

/-! ### NwAwk3 -/
section
set_option linter.unusedSimpArgs false
open Go Go.Conc Go.RowKit Go.ConcR.Gen Cw

theorem Keep.trans {a b c : World} (h : Keep a b) (k : Keep b c) : Keep a c := ⟨Nat.le_trans h.1 k.1, fun x hx => (k.2 x (Nat.lt_of_lt_of_le hx h.1)).trans (h.2 x hx)⟩
theorem Keep.ext {a b c : World} (h : Keep a b) (r : Ext Vn b c) : Keep a c := h.trans ⟨r.size, fun x hx => r.same x hx id⟩
theorem keep_of {a b : World} (r : Ext Vn a b) : Keep a b := ⟨r.size, fun x hx => r.same x hx id⟩
theorem evrow_ext {W w : World} {a : Option Addr} {E : List (Int × ByteArray)} (h : EvRow W a E) (r : Ext Vn W w) : EvRow w a E := by
  rcases h with h | ⟨b, o, ha, hc⟩
  · exact .inl h
  · exact .inr ⟨b, o, ha, fun k x hk => ⟨cell_ext r (hc k x hk).1, cell_ext r (hc k x hk).2⟩⟩
abbrev usA (sa sb : Nat) : List Value := [.slice (some ⟨sa, 0, none⟩) 2 2, .slice (some ⟨sb, 0, none⟩) 1 1]
abbrev LA : List (List ByteArray) := [[strA, strB], [strC]]
abbrev EA : List (Int × ByteArray) := [(1, strC), (0, strA), (0, strB)]
theorem refA : refRun LA [1, 0] = EA := by
  simp [refRun, refStep, refDrain, itr, Sk, List.range, List.range.loop]
theorem knA_row {W w : World} {pa sa sb sl : Nat} (h : KnA W pa sa sb sl w) : VRow w (some ⟨sl, 0, none⟩) (usA sa sb) ∧ VRow w (some ⟨pa, 0, none⟩) (ints [1, 0]) ∧ ∀ k, ∃ a c, slK (usA sa sb) k = .slice a (Sk LA k).length c ∧ Nts a (Sk LA k) w := by
  have h1 := (h.2 (sl, Obj.cells #[.slice (some ⟨sa, 0, none⟩) 2 2, .slice (some ⟨sb, 0, none⟩) 1 1] 38 (0, 0)) (by simp)).2
  have h2 := (h.2 (sb, Obj.cells #[.string strC] 9 (0, 0)) (by simp)).2
  have h3 := (h.2 (sa, Obj.cells #[.string strA, .string strB] 9 (0, 0)) (by simp)).2
  have h4 := (h.2 (pa, Obj.cells #[.int .i64 1, .int .i64 0] 3 (0, 0)) (by simp)).2
  simp only at h1 h2 h3 h4
  have two : ∀ {b : Nat} {x y : Value} {ty : TypeId}, w.heap[b]? = some (.cells #[x, y] ty (0, 0)) → ∀ (k : Nat) (u : Value), [x, y][k]? = some u → w.cell? ⟨b, 0 + k, none⟩ = some u := by
    intro b x y ty hb k u hk
    match k with
    | 0 => simp at hk; subst hk; simp [World.cell?, hb]
    | 1 => simp at hk; subst hk; simp [World.cell?, hb]
    | k + 2 => simp at hk
  refine ⟨.inr ⟨sl, 0, rfl, two h1⟩, .inr ⟨pa, 0, rfl, two h4⟩, fun k => ?_⟩
  match k with
  | 0 =>
    refine ⟨some ⟨sa, 0, none⟩, 2, rfl, .inr ⟨sa, 0, rfl, fun k s hk => ?_⟩⟩
    refine two h3 k _ ?_
    match k with
    | 0 => simp [Sk] at hk; subst hk; rfl
    | 1 => simp [Sk] at hk; subst hk; rfl
    | k + 2 => simp [Sk] at hk
  | 1 =>
    refine ⟨some ⟨sb, 0, none⟩, 1, rfl, .inr ⟨sb, 0, rfl, fun k s hk => ?_⟩⟩
    match k with
    | 0 => simp [Sk] at hk; subst hk; simp [World.cell?, h2]
    | k + 1 => simp [Sk] at hk
  | k + 2 => exact ⟨none, 0, rfl, .inl rfl⟩
set_option maxHeartbeats 2000000 in
theorem awake_call [Ref] {Sh : Loc → Prop} {γ : Nat} (hγ : 1 ≤ γ) {Q : World → Prop} {b₀ : Frame} {a₀ : Act} {ops : Array Oper} {j : Nat} {rest : List Nat} {kk : List Item} {cs : List Frame} {m : Machine} {T : Trace}
    (H : Held Try.prog (Cx0 Sh) Vn 0 0 γ Gone (fun g w => g = G (fAw #[undef, undef, undef, undef, undef, undef, undef, undef, undef, undef, undef, undef, undef, undef, undef, undef, undef, undef, undef, undef, undef, undef] [.code body9]) (b₀.at a₀ (.inRegion ops (j :: rest) :: kk) :: cs) ∧ ShOk Sh w ∧ Q w) m T) :
    Lands Try.prog m T (fun m' T' => ∃ Sh' γ', 1 ≤ γ' ∧ Held Try.prog (Cx0 Sh') Vn 0 0 γ' Gone (fun g w => ∃ W, g = G (b₀.at (a₀.put ((ops[j]?).bind (·.dst)) (.bool true)) (.inRegion ops rest :: kk)) cs ∧ Q W ∧ Keep W w ∧ ShOk Sh' w) m' T') := by
  obtain ⟨gs, W, sl, q, Rd, B, cn, g, rfl, hgs, hg, ⟨rfl, hS, hQ⟩, hB, C⟩ := H
  have H₀ : Held Try.prog (Cx0 Sh) Vn 0 0 γ Gone (fun g w => g = G (fAw #[undef, undef, undef, undef, undef, undef, undef, undef, undef, undef, undef, undef, undef, undef, undef, undef, undef, undef, undef, undef, undef, undef] [.code body9]) (b₀.at a₀ (.inRegion ops (j :: rest) :: kk) :: cs) ∧ Kn Vn W [] w) (crowd gs W sl) T := ⟨gs, W, sl, q, Rd, B, cn, _, rfl, hgs, hg, ⟨rfl, Ext.refl Vn W, by simp⟩, hB, C⟩
  clear hg hB C
  refine (H₀.walk gone_stb fun g w hK => ⟨20, by obtain ⟨rfl, hK⟩ := hK; exact a_begin (mn := (0 == 0)) _ w hK⟩).bind fun m₁ T₁ H₁ => ?_
  obtain ⟨pa, H₁⟩ := H₁.ex
  obtain ⟨sa, H₁⟩ := H₁.ex
  obtain ⟨sb, H₁⟩ := H₁.ex
  obtain ⟨sl, H₁⟩ := H₁.ex
  obtain ⟨Ts, H₁⟩ := H₁.ex
  obtain ⟨⟨s1, s2, s3⟩, H₁⟩ := H₁.and
  refine (H₁.walk (K' := fun g w => ∃ r T', T'.size = 22 ∧ g = G (fRun (entryT (.slice (some ⟨pa, 0, none⟩) 2 2) r) [.code bodyM]) (fAw T' (.inRegion ops9a (5 :: [6, 7, 8, 9, 10]) :: .code (rt (rt body9)) :: []) :: (b₀.at a₀ (.inRegion ops (j :: rest) :: kk) :: cs)) ∧ KnA W pa sa sb sl w ∧ ∃ a c, r = .slice a 2 c ∧ VRow w a (ifs (usA sa sb))) gone_stb fun g w hK => ?_).bind fun m₂ T₂ H₂ => ?_
  · obtain ⟨rfl, hK⟩ := hK
    obtain ⟨kc, hkc⟩ := c_tasks (main := (0 == 0)) (wd_of (pre_ext hS hK.1)) 2 (knA_row hK).1 (by simp) (fun u hu => by simp at hu; rcases hu with rfl | rfl <;> exact ⟨_, _, _, rfl⟩)
    refine ⟨10 + kc + 3, a_run (mn := (0 == 0)) (Q := KnA W pa sa sb sl) (fun w w' h r => h.rl (fun _ _ h => h) r) (Rs' := fun r w => ∃ a c, r = .slice a 2 c ∧ VRow w a (ifs (usA sa sb))) (fun r w w' h e => by obtain ⟨a, c, h1, h2⟩ := h; exact ⟨a, c, h1, vrow_ext h2 e⟩) _ w hK Ts s1 s2 s3 ((hkc w (Ext.refl Vn w)).mono fun r w' h => ⟨hK.rl (fun _ _ h => h) h.1, ?_⟩)⟩
    obtain ⟨a, c, h1, h2, _⟩ := own_vrow h.2
    exact ⟨a, c, h1, h2⟩
  -- into sched.Run
  have H₂' := H₂.mono (K' := fun g w => ∃ a c T', T'.size = 22 ∧ (g = G (fRun (entryT (.slice (some ⟨pa, 0, none⟩) 2 2) (.slice a 2 c)) [.code bodyM]) (fAw T' (.inRegion ops9a (5 :: [6, 7, 8, 9, 10]) :: .code (rt (rt body9)) :: []) :: (b₀.at a₀ (.inRegion ops (j :: rest) :: kk) :: cs)) ∧ Pre Sh a (some ⟨pa, 0, none⟩) (usA sa sb) LA [1, 0] w ∧ Keep W w)) (fun g w h => by
    obtain ⟨r, T', h1, h2, h3, a, c, rfl, h5⟩ := h
    exact ⟨a, c, T', h1, h2, ⟨pre_ext hS h3.1, h5, (knA_row h3).2.1, (knA_row h3).2.2⟩, keep_of h3.1⟩) (fun _ _ h => h)
  obtain ⟨al, H₃⟩ := H₂'.ex
  obtain ⟨lc, H₃⟩ := H₃.ex
  obtain ⟨Ts₂, H₃⟩ := H₃.ex
  obtain ⟨p1, H₃⟩ := H₃.and
  refine (run_notes (us := usA sa sb) (L := LA) (ps := [1, 0]) (b₀ := base 9) (a₀ := ⟨Ts₂, []⟩) (ops := ops9a) (j := 5) (rest := [6, 7, 8, 9, 10]) (kk := .code (rt (rt body9)) :: []) hγ (by simp) (by simp) (fun i hi => by simp at hi; rcases hi with rfl | rfl <;> simp) (fun u hu => by simp at hu; rcases hu with rfl | rfl <;> exact ⟨_, _, _, rfl⟩) (fun k => by
    match k with
    | 0 => simp [Sk]
    | 1 => simp [Sk]
    | k + 2 => simp [Sk]) H₃).bind fun m₄ T₄ h => ?_
  obtain ⟨Sh', γ', hγ', H₄⟩ := h
  refine Lands.mono ?_ fun m' T' h => ⟨Sh', γ', hγ', h⟩
  have H₅ := H₄.mono (K' := fun g w => ∃ a c, g = G ((base 9).at (Act.put ⟨Ts₂, []⟩ ((ops9a[5]?).bind (·.dst)) (.tuple #[.slice a 3 c, .int .i64 0])) (.inRegion ops9a [6, 7, 8, 9, 10] :: .code (rt (rt body9)) :: [])) (b₀.at a₀ (.inRegion ops (j :: rest) :: kk) :: cs) ∧ EvRow w a EA ∧ Keep W w ∧ ShOk Sh' w) (fun g w h => by
    obtain ⟨W₁, u, rfl, _, hkW, hk, hsh, hrow⟩ := h
    have hE : ((notesT W₁ Vn (usA sa sb) LA).fin () 2 [1, 0]).E = EA := by
      rw [fin_ref (n := 2) rfl (fun k hk => by simp at hk; rcases hk with rfl | rfl <;> simp), refA]
    change w.ownsRow W₁.heap.size 40 2 u ((notesT W₁ Vn (usA sa sb) LA).fin () 2 [1, 0]).E.length (evCells ((notesT W₁ Vn (usA sa sb) LA).fin () 2 [1, 0]).E) at hrow
    rw [hE] at hrow
    obtain ⟨a, c, rfl, h2⟩ := own_evrow hrow
    exact ⟨a, c, rfl, h2, hkW.trans hk, hsh⟩) (fun _ _ h => h)
  obtain ⟨ae, H₅⟩ := H₅.ex
  obtain ⟨ce, H₅⟩ := H₅.ex
  obtain ⟨gs, W₂, sl₂, q, Rd, B, cn, g, rfl, hgs, hg, ⟨rfl, hev, hkW, hsh⟩, hB, C⟩ := H₅
  have H₆ : Held Try.prog (Cx0 Sh') Vn 0 0 γ' Gone (fun g w => g = G ((base 9).at (Act.put ⟨Ts₂, []⟩ ((ops9a[5]?).bind (·.dst)) (.tuple #[.slice ae 3 ce, .int .i64 0])) (.inRegion ops9a [6, 7, 8, 9, 10] :: .code (rt (rt body9)) :: [])) (b₀.at a₀ (.inRegion ops (j :: rest) :: kk) :: cs) ∧ Kn Vn W₂ [] w) (crowd gs W₂ sl₂) T₄ := ⟨gs, W₂, sl₂, q, Rd, B, cn, _, rfl, hgs, hg, ⟨rfl, Ext.refl Vn W₂, by simp⟩, hB, C⟩
  clear hg hB C
  refine (H₆.walk gone_stb fun g w hK => ⟨30, by obtain ⟨rfl, hK⟩ := hK; exact a_same (mn := (0 == 0)) (u := .slice ae 3 ce) _ w hK Ts₂ p1⟩).bind fun m₇ T₇ H₇ => ?_
  obtain ⟨sb₂, H₇⟩ := H₇.ex
  obtain ⟨Ts₃, H₇⟩ := H₇.ex
  obtain ⟨⟨q1, q2, q3, q4⟩, H₇⟩ := H₇.and
  refine (H₇.walk (K' := fun g w => g = G (b₀.at (a₀.put ((ops[j]?).bind (·.dst)) (.bool true)) (.inRegion ops rest :: kk)) cs ∧ Ext Vn W₂ w) gone_stb fun g w hK => ?_).mono fun m' T' H => H.mono (fun g w h => ⟨W, h.1, hQ, hkW.ext h.2, pre_ext hsh h.2⟩) (fun _ _ h => h)
  obtain ⟨rfl, hK⟩ := hK
  have hb := (hK.2 (sb₂, Obj.cells #[.int .i64 1, .string strC, .int .i64 0, .string strA, .int .i64 0, .string strB] 41 (0, 0)) (by simp)).2
  simp only at hb
  have h2 : EvRow w (some ⟨sb₂, 0, none⟩) EA := .inr ⟨sb₂, 0, rfl, fun k x hk => by
    match k with
    | 0 => simp at hk; subst hk; simp [World.cell?, hb]
    | 1 => simp at hk; subst hk; simp [World.cell?, hb]
    | 2 => simp at hk; subst hk; simp [World.cell?, hb]
    | k + 3 => simp at hk⟩
  obtain ⟨kc, hkc⟩ := c_same (main := (0 == 0)) (pre_ext hsh hK.1) ce 3 (evrow_ext hev hK.1) h2 (by simp)
  exact ⟨20 + kc + 3, a_out (mn := (0 == 0)) (Q := fun w => Ext Vn W₂ w) (fun w w' h r => h.trans r) hK.1 cs Ts₃ q1 q2 q3 q4 ((hkc w (Ext.refl Vn w)).mono fun r w' h => ⟨by rw [h.1]; simp, hK.1.trans h.2⟩)⟩
end
end Go.Proofs.Ytggfcdhkgldbfaa
