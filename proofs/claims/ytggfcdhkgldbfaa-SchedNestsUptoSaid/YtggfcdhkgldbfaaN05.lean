/-
  PARTS of a claim, merged by segs.py: NwG.
-/
import Derived.Test.YtggfcdhkgldbfaaN04
namespace Go.Proofs.Ytggfcdhkgldbfaa
set_option linter.unusedSimpArgs false
set_option linter.unusedVariables false

/-! ### NwG -/
section
namespace Cw
open Go Go.Conc
open Go.ConcN (sumTo upd upd_same upd_ne sumTo_upd sumTo_congr WgLive le_sumTo)
open Go.ConcR (KK wgBlock WgAt stA smA rd wr)

section
variable {P : Program} {X : Cx} {V : Nat → Prop} {h dh : Nat} {B : Nat → By} {Rd : Nat → Loc → Prop} {cn : Nat → Nat} {T : Trace} {gs : Array Goroutine} {w : World} {q : Nat → Nat × Nat}

theorem cell_setChan {w : World} {c : Nat} {o : Obj} (hc : w.heap[c]? = some o) (ho : ∀ cs ty fr, o ≠ .cells cs ty fr) (cap : Nat) (buf : Array Value) (cl : Bool) (s r : Nat) (tm : Bool) {a : Addr} {v : Value} (ha : w.cell? a = some v) : (w.setChan c cap buf cl s r tm).cell? a = some v := by
  have hne : c ≠ a.block := by
    rintro rfl
    unfold World.cell? at ha
    rw [hc] at ha
    cases o with
    | cells cs ty fr => exact ho cs ty fr rfl
    | _ => cases ha
  rw [cell_of_block (heap_setChan_ne w cap buf cl s r tm hne)]; exact ha

/-- A channel's counts turn: nobody leans on them. -/
theorem Crew.env_chan (C : Crew P X V h dh B Rd cn T gs w q) {c k : Nat} (hc : w.heap[c]? = some (.chan 0 #[] false k k false)) (n : Nat) : Env X w (w.setChan c 0 #[] false n n false) := by
  refine ⟨by simp [World.setChan], fun a ha => ?_, fun b hb => ?_, fun _ _ ⟨st, sm, hw⟩ => ⟨st, sm, ?_⟩, rfl, rfl⟩
  · obtain ⟨_, _, v, hv, _⟩ := C.st a ha
    rw [hv]; exact cell_setChan hc (fun _ _ _ e => by cases e) _ _ _ _ _ _ hv
  · obtain ⟨v, ty, hv, _⟩ := hb
    exact heap_setChan_ne w _ _ _ _ _ _ (fun e => by subst e; rw [hc] at hv; cases hv)
  · unfold WgAt at hw ⊢
    rw [heap_setChan_ne w _ _ _ _ _ _ (fun e => by subst e; rw [hc] at hw; cases hw)]; exact hw

/-- What the giver is behind its send. -/
def Fits (X : Cx) (V : Nat → Prop) (h : Nat) (B : Nat → By) (cn : Nat → Nat) (Rh : Loc → Prop) (w : World) : By → Prop
  | .gone => (∀ l, ¬ Rh l) ∧ (X.on (X.wg h) → cn h = 0)
  | .seat c _ _ => X.Ch c ∧ (∃ k, w.heap[c]? = some (.chan 0 #[] false k k false)) ∧ ∀ i z home, i ≠ h → B i ≠ .seat c z home
  | .dn s => cn h = 1 ∧ 4 ≤ s ∧ V (X.wg h) ∧ ∀ l, ¬ Rh l

/-- THE FRAME BEHIND A MEETING: j holds. -/
theorem Crew.pass (C : Crew P X V h 0 B Rd cn T gs w q) {j c k : Nat} {z : Value} {home : Hm} (hjh : j ≠ h) (hjlt : j < gs.size) (hj : B j = .seat c z home) (hc : w.heap[c]? = some (.chan 0 #[] false k k false)) {gs' : Array Goroutine} {H' : Goroutine}
    (hsz : gs'.size = gs.size) (hoth : ∀ x, x ≠ h → x ≠ j → gs'[x]? = gs[x]?) (hH : gs'[h]? = some H') (Bh : By) (Rh : Loc → Prop) (hRh : ∀ l, Rh l → ∃ a, l = .cell a ∧ Prot X w a ∧ ¬ X.Sh l ∧ l.low w.heap.size) (hfit : Fits X V h B cn Rh w Bh) {nh : Nat × Nat}
    (hafter : ∀ T' Rd', Deaf T' h = 0 → (∀ l, Rh l → Rd' h l) → Idle P X Rd' T' (w.setChan c 0 #[] false (k + 1) (k + 1) false) h nh H' Bh) (fh : FuncId) (ph : String) (fj : FuncId) (pj : String) :
    Crew P X V j 0 (upd B h Bh) (fun g l => if g = h then Rh l else Rd g l) cn (T ++ met h j fh ph fj pj c k 0) gs' (w.setChan c 0 #[] false (k + 1) (k + 1) false) (upd q h nh) := by
  have hch : X.Ch c := (C.seats j c z home hjh hj).1
  have hdj : Deaf T j = 0 := C.past.hears j ⟨hjh, c, z, home, hj⟩
  have E := C.env_chan hc (k + 1)
  have hq : ∀ g, Deaf (T ++ met h j fh ph fj pj c k 0) g = Deaf T g := fun g => Deaf_quiet (met_quiet h j fh ph fj pj c k 0 g)
  have hclt : c < w.heap.size := (Array.getElem?_eq_some_iff.1 hc).1
  have hs : (w.setChan c 0 #[] false (k + 1) (k + 1) false).heap.size = w.heap.size := by simp [World.setChan]
  have p0 := C.past.lose Rh (by
    intro l hl
    obtain ⟨a, rfl, _, h2, h3⟩ := hRh l hl
    exact ⟨h2, rfl, h3⟩)
  have p1 := p0.give (j := j) C.hdeaf hdj fh ph fj pj k 0 hclt
  refine ⟨by omega, fun x y hx hy => ?_, fun i c' z' home' hi e => ?_, fun i i' c' z₁ z₂ h₁ h₂ hi hi' e e' => ?_, fun x hx => ?_, by rw [hq]; exact hdj, fun g l hl => ?_, fun g l hg hl => ?_, fun a ha => ?_, C.sh, fun a ha => by rw [hs]; exact C.shlow a ha, fun b hb => by rw [hs]; exact C.exlow b hb, fun b o => ?_,
    fun b o => by rw [hsz]; exact C.few b o, fun i s hi e => ?_, C.volC, ?_⟩
  · by_cases e : x = h
    · subst e
      rw [hH] at hy
      obtain rfl := Option.some.inj hy
      rw [upd_same, upd_same]
      exact hafter _ _ (by rw [hq]; exact C.hdeaf) fun l hl => by rw [if_pos rfl]; exact hl
    · rw [hoth x e hx] at hy
      rw [upd_ne q nh e, upd_ne B Bh e]
      exact (C.idle x y e hy).env E (hq x) fun l hl => by rw [if_neg e]; exact hl
  · by_cases ei : i = h
    · subst ei
      rw [upd_same] at e
      subst e
      obtain ⟨h1, ⟨k', hk'⟩, h3⟩ := hfit
      refine ⟨h1, k', ?_⟩
      rw [heap_setChan_ne w _ _ _ _ _ _ (fun e => by subst e; exact h3 j z home hjh hj)]
      exact hk'
    · rw [upd_ne B Bh ei] at e
      obtain ⟨h1, k', hk'⟩ := C.seats i c' z' home' ei e
      refine ⟨h1, k', ?_⟩
      rw [heap_setChan_ne w _ _ _ _ _ _ (fun ec => by subst ec; exact hi (C.inj i j c z' z home' home ei hjh e hj))]
      exact hk'
  · by_cases e1 : i = h <;> by_cases e2 : i' = h
    · rw [e1, e2]
    · subst e1
      rw [upd_same] at e; rw [upd_ne B Bh e2] at e'
      subst e
      exact absurd e' (hfit.2.2 i' _ _ e2)
    · subst e2
      rw [upd_same] at e'; rw [upd_ne B Bh e1] at e
      subst e'
      exact absurd e (hfit.2.2 i _ _ e1)
    · rw [upd_ne B Bh e1] at e; rw [upd_ne B Bh e2] at e'
      exact C.inj i i' c' z₁ z₂ h₁ h₂ e1 e2 e e'
  · rw [hsz] at hx
    obtain ⟨h1, h2, h3⟩ := C.out x hx
    have hxh : x ≠ h := by have := C.hlt; omega
    exact ⟨by rw [hq]; exact h1, fun l hl => by rw [if_neg hxh] at hl; exact h2 l hl, by rw [upd_ne B Bh hxh]; exact h3⟩
  · by_cases eg : g = h
    · rw [if_pos eg] at hl
      obtain ⟨a, rfl, hp, _⟩ := hRh l hl
      exact ⟨a, rfl, (E.prot hp).2⟩
    · rw [if_neg eg] at hl
      obtain ⟨a, rfl, hp⟩ := C.rdp g l hl
      exact ⟨a, rfl, (E.prot hp).2⟩
  · by_cases eg : g = h
    · rw [if_pos eg] at hl
      subst eg
      rw [upd_same]
      cases Bh with
      | gone => exact absurd hl (hfit.1 l)
      | seat c' z' home' => exact ⟨c', z', home', rfl⟩
      | dn s => exact absurd hl (hfit.2.2.2 l)
    · rw [if_neg eg] at hl
      rw [upd_ne B Bh eg]
      exact C.rds g l eg hl
  · obtain ⟨h1, h2, v, h3⟩ := C.st a ha
    exact ⟨by rw [hs]; exact h1, h2, v, by rw [E.st a ha]; exact h3⟩
  · obtain ⟨m1, m2, _, m4, m5⟩ := C.mdok b o
    rw [hsz]
    refine ⟨m1, ?_, fun e => by omega, fun i s hi hb e => ?_, fun i hi hb e => ?_⟩
    · unfold WgAt at m2 ⊢
      rw [heap_setChan_ne w _ _ _ _ _ _ (fun e => by subst e; rw [hc] at m2; cases m2)]
      exact m2
    · by_cases ei : i = h
      · subst ei
        rw [upd_same] at e
        subst e
        exact ⟨hfit.1, hfit.2.1⟩
      · rw [upd_ne B Bh ei] at e
        exact m4 i s ei hb e
    · by_cases ei : i = h
      · subst ei
        rw [upd_same] at e
        subst e
        exact hfit.2 (by rw [hb]; exact o)
      · rw [upd_ne B Bh ei] at e
        exact m5 i ei hb e
  · by_cases ei : i = h
    · subst ei
      rw [upd_same] at e
      subst e
      exact hfit.2.2.1
    · rw [upd_ne B Bh ei] at e
      exact C.volD i s ei e
  · rw [hs]
    refine p1.fewer fun g hg => ?_
    obtain ⟨hgj, c', z', home', e⟩ := hg
    by_cases eg : g = h
    · exact .inr (.inl eg)
    · rw [upd_ne B Bh eg] at e
      exact .inl ⟨eg, c', z', home', e⟩

/-- Where the token has come to j. -/
def Given (P : Program) (X : Cx) (V : Nat → Prop) (h : Nat) (B : Nat → By) (cn : Nat → Nat) (j c : Nat) (home : Hm) (v : Value) (R : World → World → Prop) (w : World) (n : Nat) (Bh : By) (m : Machine) (t : Trace) : Prop :=
  ∃ (gs' : Array Goroutine) (w₁ : World) (k : Nat) (g₂ : Goroutine) (L : Addr → Value → Prop) (sl' : Option (Nat × Nat)) (q' : Nat → Nat × Nat) (Rd' : Nat → Loc → Prop) (B₁ : Nat → By) (cn' : Nat → Nat),
    m = crowd gs' (w₁.setChan c 0 #[] false (k + 1) (k + 1) false) sl' ∧ gs'.size = n ∧ R w w₁ ∧ Ext V w w₁ ∧ Env X w w₁ ∧ w₁.heap[c]? = some (.chan 0 #[] false k k false) ∧ gs'[j]? = some (Go.Conc.served g₂ v) ∧ home g₂ L ∧
    (∀ x y, L x y → (w₁.setChan c 0 #[] false (k + 1) (k + 1) false).cell? x = some y ∧ Prot X (w₁.setChan c 0 #[] false (k + 1) (k + 1) false) x ∧ ¬ X.Sh (.cell x)) ∧ Later h B cn B₁ cn' ∧ Crew P X V j 0 (upd B₁ h Bh) Rd' cn' t gs' (w₁.setChan c 0 #[] false (k + 1) (k + 1) false) q'

/-- THE HOLDER STANDS AT A SEND ON j's SEAT: on whatever tape the token comes to j. -/
theorem Crew.give {R : World → World → Prop} (hR : Rely V B h R) (hRt : ∀ a b c, R a b → R b c → R a c) {a a₂ : Goroutine} {sl : Option (Nat × Nat)} {j c : Nat} {z v z' : Value} {home : Hm} (hjh : j ≠ h) (hjlt : j < gs.size) (hj : B j = .seat c z home) (ha : gs[h]? = some a) (hrun : a.status = .running)
    (C : Crew P X V h 0 B Rd cn T gs w q) (hsend : ∀ w₁, R w w₁ → stepG P (h == 0) a w₁ = .comm a₂ #[scase c v z'] true .send w₁ #[])
    (Bh : By) (Rh : Loc → Prop) (hRh : ∀ l, Rh l → ∃ a, l = .cell a ∧ Prot X w a ∧ ¬ X.Sh l ∧ l.low w.heap.size) (hfit : Fits X V h B cn Rh w Bh) {nh : Nat × Nat}
    (hafter : ∀ w₁ T' Rd', Env X w w₁ → Deaf T' h = 0 → (∀ l, Rh l → Rd' h l) → Idle P X Rd' T' w₁ h nh (Go.Conc.served a₂ undef) Bh) :
    ∃ N m' T', runNT P N (crowd gs w sl) T = (.next m', T') ∧ Given P X V h B cn j c home v R w gs.size Bh m' T' := by
  refine runs_lex (P := P)
    (Inv := fun α β m t => Given P X V h B cn j c home v R w gs.size Bh m t ∨
      ∃ gs₁ w₁ sl₁ q₁ Rd₁ B₁ cn₁, ∃ pk : Bool, m = crowd gs₁ w₁ sl₁ ∧ gs₁.size = gs.size ∧ gs₁[h]? = some (if pk then parked a₂ #[scase c v z'] .send else a) ∧ R w w₁ ∧ Ext V w w₁ ∧ Env X w w₁ ∧ Later h B cn B₁ cn₁ ∧ Crew P X V h 0 B₁ Rd₁ cn₁ t gs₁ w₁ q₁ ∧
        (pk = true → 0 < (q₁ j).2) ∧ α = sumTo gs₁.size (fun i => (q₁ i).1) ∧ β = sumTo gs₁.size (fun i => (q₁ i).2) + (if pk then 0 else 1))
    (Done := Given P X V h B cn j c home v R w gs.size Bh)
    (fun α β m t hInv => ?_) _ _ _ T (.inr ⟨gs, w, sl, q, Rd, B, cn, false, rfl, rfl, ha, ext_refl_of hR w, Ext.refl V w, Env.refl X w, Later.refl h B cn, C, by simp, rfl, rfl⟩)
  rcases hInv with hdone | ⟨gs₁, w₁, sl₁, q₁, Rd₁, B₁, cn₁, pk, rfl, hsz, ha₁, hRw, hE, hEv, hlat, C₁, hpk, hα, hβ⟩
  · exact .inl hdone
  refine .inr ?_
  have hlth := C₁.hlt
  have hj₁ : B₁ j = .seat c z home := hlat.seat.2 hj
  obtain ⟨gj, hgj⟩ : ∃ gj, gs₁[j]? = some gj := ⟨gs₁[j]'(by omega), Array.getElem?_eq_getElem (by omega)⟩
  obtain ⟨hCh, k, hck⟩ := C₁.seats j c z home hjh hj₁
  have hidj : Idle P X Rd₁ t w₁ j (q₁ j) gj (.seat c z home) := by have := C₁.idle j gj hjh hgj; rwa [hj₁] at this
  obtain ⟨_, L, hL, hS⟩ := hidj
  have hsome : ∃ (i : Nat) (g : Goroutine), gs₁[i]? = some g ∧ g.status = .running := by
    cases pk with
    | false => exact ⟨h, a, ha₁, hrun⟩
    | true =>
      refine ⟨j, gj, hgj, ?_⟩
      rcases hS.status with ⟨x, _⟩ | ⟨_, _, x⟩
      · exact x
      · have := hpk rfl; omega
  obtain ⟨i, g, d, sl', hi, hg, hst⟩ := crowd_pick (P := P) (w := w₁) (sl := sl₁) (C₁.awake ha₁ (by cases pk <;> simp [hrun, parked])) hsome
  have hR₁ := hR.le hlat.le
  have Cd := C₁.at d
  have hRd := hRt _ _ _ hRw (ext_at_of hR₁ w₁ d)
  have hEd := hE.trans (Ext.at V w₁ d)
  have hEvd := hEv.trans (Env.at X w₁ d)
  have hcd : (w₁.at d).heap[c]? = some (.chan 0 #[] false k k false) := hck
  have hnotSh : ∀ x, Rd₁ j (.cell x) → ¬ X.Sh (.cell x) := fun x hx => (C₁.past.apart j _ hx).1
  -- BEHIND EITHER MEETING
  have fin : ∀ (L : Addr → Value → Prop), LOk X w₁ Rd₁ j L → ∀ (gs' : Array Goroutine) (t₀ : Trace) (g₂ : Goroutine) (q₂ : Nat → Nat × Nat) (sl₂ : Option (Nat × Nat)), gs'.size = gs₁.size → (∀ x, x ≠ h → x ≠ j → gs'[x]? = gs₁[x]?) → gs'[h]? = some (Go.Conc.served a₂ undef) → gs'[j]? = some (Go.Conc.served g₂ v) → home g₂ L →
      Crew P X V h 0 B₁ Rd₁ cn₁ t₀ gs₁ (w₁.at d) q₂ → ∀ fh ph fj pj, Given P X V h B cn j c home v R w gs.size Bh (crowd gs' ((w₁.at d).setChan c 0 #[] false (k + 1) (k + 1) false) sl₂) (t₀ ++ met h j fh ph fj pj c k 0) := by
    intro L hL gs' t₀ g₂ q₂ sl₂ hsz' hoth hH hJ hhome C₂ fh ph fj pj
    have E := C₂.env_chan hcd (k + 1)
    refine ⟨gs', w₁.at d, k, g₂, L, sl₂, _, _, B₁, cn₁, rfl, hsz'.trans hsz, hRd, hEd, hEvd, hcd, hJ, hhome, fun x y hxy => ?_, hlat, C₂.pass hjh (by omega) hj₁ hcd hsz' hoth hH Bh Rh (fun l hl => ?_) ?_ (nh := nh) (fun T' Rd' hdf hr => hafter _ T' Rd' (hEvd.trans E) hdf hr) fh ph fj pj⟩
    · obtain ⟨h1, h2, h3⟩ := hL x y hxy
      have h2' : Prot X (w₁.at d) x := ((Env.at X w₁ d).prot h2).2
      exact ⟨by rw [(E.prot h2').1]; exact h1, (E.prot h2').2, hnotSh x h3⟩
    · obtain ⟨x, rfl, h1, h2, h3⟩ := hRh l hl
      exact ⟨x, rfl, (hEvd.prot h1).2, h2, Loc.low_mono hEvd.size h3⟩
    · cases Bh with
      | gone => exact ⟨hfit.1, fun o => by rw [hlat.cn h (.inl rfl)]; exact hfit.2 o⟩
      | seat c' z' home' =>
        obtain ⟨h1, ⟨k', hk'⟩, h3⟩ := hfit
        exact ⟨h1, ⟨k', by rw [hEd.same c' (Array.getElem?_eq_some_iff.1 hk').1 (C.volC c' h1)]; exact hk'⟩, fun i z'' home'' hi e => h3 i z'' home'' hi (hlat.seat.1 e)⟩
      | dn s => exact ⟨by rw [hlat.cn h (.inl rfl)]; exact hfit.1, hfit.2⟩
  by_cases e : i = h
  · subst e
    obtain rfl : pk = false := by
      cases pk with
      | false => rfl
      | true =>
        simp only [if_true] at ha₁
        rw [ha₁] at hi
        obtain rfl := Option.some.inj hi
        cases hg
    simp only [Bool.false_eq_true, if_false] at ha₁
    obtain rfl : g = a := by rw [ha₁] at hi; exact (Option.some.inj hi).symm
    have hs := hsend (w₁.at d) hRd
    have hoff : ∀ (x : Nat) (y : Goroutine), x ≠ j → (gs₁.setIfInBounds i ph)[x]? = some y → offersAt y c false = [] := by
      intro x y hxj hy
      rcases getElem?_stand gs₁ i x y hy with ⟨_, rfl⟩ | ⟨hx, hy'⟩
      · exact offersAt_ph _ _
      · exact C₁.noRecv hx hy' fun z₁ home₁ e₁ => hxj (C₁.inj x j c z₁ z home₁ home hx hjh e₁ hj₁)
    rcases hS with ⟨k', hqk, hW⟩ | ⟨hq0, g₀, gp, rfl, hat⟩
    · -- j is on its way: the holder is parked at its send
      have hjr := hW.running
      have hq0 : 0 < (q₁ j).2 := by omega
      have hp : partners (gs₁.setIfInBounds i ph) c false = [] := partners_nil fun x y hy => by
        by_cases hxj : x = j
        · subst hxj
          rw [stand_get hjh hgj] at hy
          obtain rfl := Option.some.inj hy
          exact offersAt_of_not_blocked (by rw [hjr]; simp) _ _
        · exact hoff x y hxj hy
      have hw : ∀ cc ∈ #[scase c v z'], NoWays (w₁.at d) (gs₁.setIfInBounds i ph) cc := by
        intro cc hcc
        simp only [List.mem_toArray, List.mem_cons, List.not_mem_nil, or_false] at hcc
        subst hcc
        exact ways_send_none hcd (Nat.le_refl _) hp
      refine ⟨_, _, α, sumTo gs₁.size (fun i => (q₁ i).2) + 0, by rw [hst]; exact crowd_waits (sl := sl') hi hs hw, .inr ⟨rfl, by simp at hβ; omega⟩, .inr ⟨_, w₁.at d, sl', q₁, Rd₁, B₁, cn₁, true, rfl, by simpa using hsz, Array.getElem?_setIfInBounds_self_of_lt hlth, hRd, hEd, hEvd, hlat, ?_, fun _ => hq0, by simpa using hα, by simp⟩⟩
      rw [ofEvents_nil, Array.append_empty]
      exact ⟨by simpa using hlth, fun x y hx hy => Cd.idle x y hx (by rw [Array.getElem?_setIfInBounds_ne (fun z => hx z.symm)] at hy; exact hy), Cd.seats, Cd.inj, fun x hx => Cd.out x (by simpa using hx), Cd.hdeaf, Cd.rdp, Cd.rds, Cd.st, Cd.sh, Cd.shlow, Cd.exlow, fun b o => by rw [Array.size_setIfInBounds]; exact Cd.mdok b o, fun b o => by rw [Array.size_setIfInBounds]; exact Cd.few b o, Cd.volD, Cd.volC, Cd.past⟩
    · -- j is parked: the meeting
      have hp : partners (gs₁.setIfInBounds i ph) c false = [(j, 0)] := by
        rw [partners_one (stand_get hjh hgj) fun x y hxj hy => hoff x y hxj hy, offersAt_parked_recv, if_pos rfl]
        rfl
      have hrt := crowd_send_meets (sl := sl') hi hs hcd hjh hgj hp
      rw [ofEvents_nil, Array.empty_append] at hrt
      refine ⟨_, _, α, 0, by rw [hst]; exact hrt, .inr ⟨rfl, by simp at hβ; omega⟩, .inl ?_⟩
      exact fin L hL _ t gp q₁ sl' (by simp) (fun x hx hxj => by rw [Array.getElem?_setIfInBounds_ne (fun z => hx z.symm), Array.getElem?_setIfInBounds_ne (fun z => hxj z.symm)]) (Array.getElem?_setIfInBounds_self_of_lt (by simpa using hlth))
        (by rw [Array.getElem?_setIfInBounds_ne (fun z => hjh z.symm), Array.getElem?_setIfInBounds_self_of_lt (by omega), finishComm_recv]; rfl) hat.2.1 Cd _ _ _ _
  · by_cases ej : i = j ∧ pk = true ∧ ∃ g₂ L', LOk X (w₁.at d) Rd₁ j L' ∧ AtS P (i == 0) c z home L' g g₂
    · -- j COMES TO ITS RECEIVE AND MEETS THE PARKED HOLDER
      obtain ⟨rfl, rfl, g₂, L', hL', hat⟩ := ej
      simp only [if_true] at ha₁
      obtain ⟨_, hhome, es, hes, hstp⟩ := hat
      have hs := hstp (w₁.at d) fun x y hxy => (hL' x y hxy).1
      have hops : ∀ op ∈ MemOp.ofEvents i g.frame.fn g.frame.place es, op.g = i := fun op hop => by obtain ⟨e, _, rfl⟩ := Go.Conc.mem_ofEvents hop; rfl
      have hform : ∀ op ∈ MemOp.ofEvents i g.frame.fn g.frame.place es, ∃ x y, L' x y ∧ op = { g := i, fn := g.frame.fn, pos := g.frame.place, act := .access ⟨.cell x, false, false⟩ } := by
        intro op hop
        obtain ⟨e, he, rfl⟩ := Go.Conc.mem_ofEvents hop
        obtain ⟨x, y, rfl, hxy⟩ := hes e he
        exact ⟨x, y, hxy, rfl⟩
      have hdf : ∀ x, Deaf (t ++ MemOp.ofEvents i g.frame.fn g.frame.place es) x = Deaf t x := fun x => by
        by_cases ex : x = i
        · subst ex
          rw [Deaf_own]
          exact deafBehind_still (fun e he => by obtain ⟨x', y, rfl, _⟩ := hes e he; exact ⟨by simp, by simp⟩) _
        · exact Deaf_other t (fun z => ex z.symm) _ hops
      have hpast := Cd.past.appBy (K' := Knows (t ++ MemOp.ofEvents i g.frame.fn g.frame.place es) h) (fun _ => Knows.app _) hops (fun k' op hk b hb => by
        obtain ⟨x, y, hxy, rfl⟩ := hform op (Array.mem_of_getElem? hk)
        simp only [MemAct.touch?, Option.some.injEq] at hb
        subst hb
        exact .inl ⟨rfl, (hL' x y hxy).2.2⟩) (fun op hop x => by obtain ⟨x', y, _, rfl⟩ := hform op hop; simp) (fun _ => hdf i) (fun op hop => by
        obtain ⟨x, y, hxy, rfl⟩ := hform op hop
        exact (Cd.past.apart i _ (hL' x y hxy).2.2).2.2)
      have C₂ : Crew P X V h 0 B₁ Rd₁ cn₁ (t ++ MemOp.ofEvents i g.frame.fn g.frame.place es) gs₁ (w₁.at d) q₁ :=
        ⟨Cd.hlt, fun x y hx hy => (Cd.idle x y hx hy).env (Env.refl X _) (hdf x) fun _ z => z, Cd.seats, Cd.inj, fun x hx => by rw [hdf]; exact Cd.out x hx, by rw [hdf]; exact Cd.hdeaf, Cd.rdp, Cd.rds, Cd.st, Cd.sh, Cd.shlow, Cd.exlow, Cd.mdok, Cd.few, Cd.volD, Cd.volC, hpast⟩
      have hp : partners (gs₁.setIfInBounds i ph) c true = [(h, 0)] := by
        rw [partners_one (stand_get (Ne.symm hjh) ha₁) fun x y hxh hy => by
          rcases getElem?_stand gs₁ i x y hy with ⟨_, rfl⟩ | ⟨_, hy'⟩
          · exact offersAt_ph _ _
          · exact C₁.noSend hxh hy' _]
        simp [offersAt_parked_send]
      have hrt := crowd_recv_meets (sl := sl') hi hs hcd (Ne.symm hjh) ha₁ hp
      rw [hgj] at hi
      refine ⟨_, _, α, 0, by rw [hst]; exact hrt, .inr ⟨rfl, by have := hpk rfl; simp at hβ; have := le_sumTo (f := fun i => (q₁ i).2) (show i < gs₁.size by omega); omega⟩, .inl ?_⟩
      rw [← Array.append_assoc]
      exact fin L' (fun x y hxy => by
          obtain ⟨y1, y2, y3⟩ := hL' x y hxy
          exact ⟨y1, ((Env.at X (w₁.at d) w₁.drawn).prot y2).2, y3⟩) _ _ g₂ q₁ sl' (by simp) (fun x hx hxj => by rw [Array.getElem?_setIfInBounds_ne (fun z => hxj z.symm), Array.getElem?_setIfInBounds_ne (fun z => hx z.symm)])
        (by rw [Array.getElem?_setIfInBounds_ne hjh, Array.getElem?_setIfInBounds_self_of_lt hlth, finishComm_send]) (by rw [Array.getElem?_setIfInBounds_self_of_lt (by simp; omega), finishComm_recv]; rfl) hhome C₂ _ _ _ _
    · -- a bystander's step
      obtain ⟨gs', ops, w', q', Rd', B', cn', hrt, hsz', hsp, hqo, E, Ev, hlat', hgone, C', hlt, hq0⟩ := Cd.by_step (sl := sl') hi e hg ha₁
        (fun w' E' => by
          cases pk with
          | false => exact again_running w' (.inl hrun)
          | true => exact again_send_open (by rw [E'.same c (Array.getElem?_eq_some_iff.1 hcd).1 (C₁.volC c hCh)]; exact hcd))
        (fun c' z'' home' g₂ L' hB' hL' hat => by
          cases pk with
          | false => exact offersAt_of_not_blocked (by simp [hrun]) _ _
          | true =>
            simp only [if_true]
            rw [offersAt_parked_send, if_neg]
            intro ec
            subst ec
            have hij : i = j := C₁.inj i j c z'' z home' home e hjh hB' hj₁
            subst hij
            rw [hj₁] at hB'
            obtain ⟨_, rfl, rfl⟩ := By.seat.inj hB'
            exact ej ⟨rfl, rfl, g₂, L', hL', hat⟩)
      refine ⟨_, _, sumTo gs'.size (fun i => (q' i).1), sumTo gs'.size (fun i => (q' i).2) + (if pk then 0 else 1), by rw [hst]; exact hrt, ?_, .inr ⟨gs', w', sl', q', Rd', B', cn', pk, rfl, hsz'.trans hsz, hsp, hRt _ _ _ hRd (hR₁ _ _ E fun hx => ⟨d, hgone hx⟩), hEd.trans E, hEvd.trans Ev, hlat.trans hlat', C', fun hp => ?_, rfl, rfl⟩⟩
      · rw [hsz']
        rcases hlt with x | ⟨x, y⟩
        · exact .inl (by omega)
        · exact .inr ⟨by omega, by omega⟩
      · subst hp
        by_cases hij : j = i
        · subst hij
          rcases Nat.eq_zero_or_pos (q' j).2 with h0 | h0
          · obtain ⟨g₂, L', hL', hat⟩ := hq0 c z home hj₁ h0
            exact absurd ⟨rfl, rfl, g₂, L', hL', hat⟩ ej
          · exact h0
        · rw [hqo j hij]; exact hpk rfl
end
end Cw
end
end Go.Proofs.Ytggfcdhkgldbfaa
