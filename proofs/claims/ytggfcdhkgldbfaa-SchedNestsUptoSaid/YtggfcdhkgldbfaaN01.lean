/-
  PARTS of a claim, merged by segs.py: NwT.
-/
import Derived.Conc.Token
namespace Go.Proofs.Ytggfcdhkgldbfaa
set_option linter.unusedSimpArgs false
set_option linter.unusedVariables false

/-! ### NwT -/
section
namespace Cw
open Go Go.Conc

/-- The places that goroutine g may read while it does not hold: 'Rd g'. 'Sh': the groups' cells, touched atomically alone. 'K i': touch number i is accounted for. -/
def Late (Pn : Nat → Prop) (Rl : Addr → Prop) (t : Trace) (i : Nat) : Prop :=
  ¬ t.heard i ∨ (∃ g, t.g? i = some g ∧ Pn g) ∨ ∃ r a, Rl a ∧ t.act? r = some (.mark (.releaseMerge a)) ∧ t.heard r ∧ Before t i r

/-- 'Pn': who is yet to say its release; 'Rl': the groups whose acquire is yet to come. -/
structure Tr (Sh : Loc → Prop) (Rd : Nat → Loc → Prop) (Mem Pn : Nat → Prop) (Rl : Addr → Prop) (B : Nat) (K : Nat → Prop) (t : Trace) : Prop where
  clean : ∀ said, ¬ Race said t
  known : ∀ i a, touchAt t i = some a → a.loc.isMemory = true → K i ∨ (a.write = false ∧ ∃ g, t.g? i = some g ∧ Rd g a.loc) ∨ (Sh a.loc ∧ a.kind = .atomic ∧ Late Pn Rl t i)
  wrote : ∀ i a g, touchAt t i = some a → a.write = true → Rd g a.loc → Knows t g i
  shy : ∀ i a, touchAt t i = some a → Sh a.loc → a.kind ≠ .plain
  apart : ∀ g l, Rd g l → ¬ Sh l ∧ l.isMemory = true ∧ l.low B
  hears : ∀ g, Mem g → Deaf t g = 0
  norel : ∀ op ∈ t, ∀ a, op.act ≠ .mark (.release a)
  seen : ∀ op ∈ t, op.act.low B

theorem touch_cases {t u : Trace} {i : Nat} {a : Touch} (h : touchAt (t ++ u) i = some a) :
    (i < t.size ∧ touchAt t i = some a) ∨ (t.size ≤ i ∧ ∃ op, (t ++ u)[i]? = some op ∧ u[i - t.size]? = some op ∧ op ∈ u ∧ op.act.touch? = some a) := by
  obtain ⟨x, hx, hxa⟩ := touch_of h
  rcases Nat.lt_or_ge i t.size with hi | hi
  · exact .inl ⟨hi, by rw [touchAt_old hi] at h; exact h⟩
  · refine .inr ⟨hi, x, hx, ?_, ?_, hxa⟩
    · rw [Array.getElem?_append_right hi] at hx; exact hx
    · rw [Array.getElem?_append_right hi] at hx; exact Array.mem_of_getElem? hx

section
variable {Sh : Loc → Prop} {Rd : Nat → Loc → Prop} {Mem Pn : Nat → Prop} {Rl : Addr → Prop} {B : Nat} {K K' : Nat → Prop} {t u : Trace} {h : Nat}

theorem Late.app (u : Trace) {i : Nat} (hi : i < t.size) (H : Late Pn Rl t i) : Late Pn Rl (t ++ u) i := by
  rcases H with x | ⟨g, hg, hp⟩ | ⟨r, a, hRl, hr, hh, hb⟩
  · exact .inl (by rw [heard_old hi]; exact x)
  · exact .inr (.inl ⟨g, by rw [g?_old hi]; exact hg, hp⟩)
  · have hlt := lt_of_act? hr
    exact .inr (.inr ⟨r, a, hRl, by rw [act?_old hlt]; exact hr, (heard_old hlt).2 hh, hb.app u⟩)

theorem Tr.mono {B' : Nat} (H : Tr Sh Rd Mem Pn Rl B K t) (hB : B ≤ B') : Tr Sh Rd Mem Pn Rl B' K t :=
  ⟨H.clean, H.known, H.wrote, H.shy, fun g l hl => ⟨(H.apart g l hl).1, (H.apart g l hl).2.1, Loc.low_mono hB (H.apart g l hl).2.2⟩, H.hears, H.norel, fun op hop => MemAct.low_mono hB (H.seen op hop)⟩
theorem Tr.fewer {Mem' : Nat → Prop} (H : Tr Sh Rd Mem Pn Rl B K t) (hM : ∀ g, Mem' g → Mem g) : Tr Sh Rd Mem' Pn Rl B K t :=
  ⟨H.clean, H.known, H.wrote, H.shy, H.apart, fun g hg => H.hears g (hM g hg), H.norel, H.seen⟩

theorem Late.more {Pn' : Nat → Prop} {Rl' : Addr → Prop} (hP : ∀ g, Pn g → Pn' g) (hR : ∀ a, Rl a → Rl' a) {i : Nat} (H : Late Pn Rl t i) : Late Pn' Rl' t i :=
  H.imp id fun x => x.imp (fun ⟨g, hg, hp⟩ => ⟨g, hg, hP g hp⟩) fun ⟨r, a, h1, h2⟩ => ⟨r, a, hR a h1, h2⟩
theorem Tr.more {Pn' : Nat → Prop} {Rl' : Addr → Prop} (H : Tr Sh Rd Mem Pn Rl B K t) (hP : ∀ g, Pn g → Pn' g) (hR : ∀ a, Rl a → Rl' a) : Tr Sh Rd Mem Pn' Rl' B K t :=
  ⟨H.clean, fun i a ha hm => (H.known i a ha hm).imp id fun x => x.imp id fun ⟨x, y, z⟩ => ⟨x, y, z.more hP hR⟩, H.wrote, H.shy, H.apart, H.hears, H.norel, H.seen⟩
theorem Tr.rd_sub {Rd' : Nat → Loc → Prop} (H : Tr Sh Rd Mem Pn Rl B K t) (hR : ∀ g l, Rd' g l → Rd g l) (hg : ∀ i a g, touchAt t i = some a → t.g? i = some g → Rd g a.loc → ¬ Rd' g a.loc → K i) : Tr Sh Rd' Mem Pn Rl B K t :=
  ⟨H.clean, fun i a ha hm => by
    rcases H.known i a ha hm with x | ⟨x, g, hgi, hr⟩ | x
    · exact .inl x
    · by_cases e : Rd' g a.loc
      · exact .inr (.inl ⟨x, g, hgi, e⟩)
      · exact .inl (hg i a g ha hgi hr e)
    · exact .inr (.inr x), fun i a g ha hw hr => H.wrote i a g ha hw (hR _ _ hr), H.shy, fun g l hl => H.apart g l (hR g l hl), H.hears, H.norel, H.seen⟩

/-- Nobody has touched a place of a block that is not there yet. -/
theorem Tr.fresh (H : Tr Sh Rd Mem Pn Rl B K t) {i : Nat} {a : Touch} {x : Addr} (ha : touchAt t i = some a) (hx : a.loc = .cell x) : x.block < B := by
  obtain ⟨op, ho, hoa⟩ := touch_of ha
  have hl := H.seen op (Array.mem_of_getElem? ho)
  obtain ⟨g, fn, pos, act⟩ := op
  cases act with
  | access e =>
    simp only [MemAct.touch?, Option.some.injEq] at hoa
    subst hoa
    simp only [MemAct.low] at hl
    simp only at hx
    rw [hx] at hl
    exact hl
  | mark m =>
    cases m <;> simp [MemAct.touch?] at hoa <;> subst hoa <;> simp at hx <;> subst hx <;> exact hl
  | _ => simp [MemAct.touch?] at hoa

/-- What is old stays as it was held. -/
theorem Tr.old (H : Tr Sh Rd Mem Pn Rl B K t) (hK : ∀ i, K i → K' i) {i : Nat} {a : Touch} (hi : i < t.size) (ha : touchAt t i = some a) (hm : a.loc.isMemory = true) :
    K' i ∨ (a.write = false ∧ ∃ g, (t ++ u).g? i = some g ∧ Rd g a.loc) ∨ (Sh a.loc ∧ a.kind = .atomic ∧ Late Pn Rl (t ++ u) i) := by
  rcases H.known i a ha hm with x | ⟨x, g, hg, hr⟩ | ⟨x, y, z⟩
  · exact .inl (hK i x)
  · exact .inr (.inl ⟨x, g, by rw [g?_old hi]; exact hg, hr⟩)
  · exact .inr (.inr ⟨x, y, z.app u hi⟩)

/-- THE HOLDER's OWN OPERATIONS. -/
theorem Tr.appH {B' : Nat} (H : Tr Sh Rd Mem Pn Rl B (Knows t h) t) (hB : B ≤ B') (hu : ∀ op ∈ u, op.g = h) (hM : ¬ Mem h)
    (hs : ∀ op ∈ u, ∀ b, op.act.touch? = some b → (Sh b.loc → b.kind ≠ .plain) ∧ (b.write = true → ∀ g, g ≠ h → ¬ Rd g b.loc)) (hnr : ∀ op ∈ u, ∀ a, op.act ≠ .mark (.release a)) (hl : ∀ op ∈ u, op.act.low B') :
    Tr Sh Rd Mem Pn Rl B' (Knows (t ++ u) h) (t ++ u) := by
  refine ⟨fun said => noRace_append (H.clean said) hu fun i a ha op hop b hb hc => ?_, fun i a ha hm => ?_, fun i a g ha hw hR => ?_, fun i a ha hS => ?_,
    fun g l hl' => ⟨(H.apart g l hl').1, (H.apart g l hl').2.1, Loc.low_mono hB (H.apart g l hl').2.2⟩, fun g hg => ?_, fun op hop => (Array.mem_append.1 hop).elim (H.norel op) (hnr op), fun op hop => ?_⟩
  · rcases H.known i a ha hc.2.1 with hk | ⟨hw, g, hg, hR⟩ | ⟨hS, hk, _⟩
    · exact hk
    · have hbw : b.write = true := by
        rcases hc.2.2.1 with x | x
        · rw [hw] at x; cases x
        · exact x
      by_cases e : g = h
      · subst e
        obtain ⟨x, hx, _⟩ := touch_of ha
        have := knows_own hx
        rwa [show x.g = g from by have := g?_of hx; rw [hg] at this; exact (Option.some.inj this).symm] at this
      · exact absurd (hc.1 ▸ hR) ((hs op hop b hb).2 hbw g e)
    · have hbk := (hs op hop b hb).1 (hc.1 ▸ hS)
      rcases hc.2.2.2 with x | x | ⟨_, x, _⟩
      · rw [hk] at x; cases x
      · exact absurd x hbk
      · rw [hk] at x; cases x
  · rcases touch_cases ha with ⟨hi, ha'⟩ | ⟨_, op, ho, _, hop, _⟩
    · exact H.old (fun i => Knows.app u) hi ha' hm
    · have := knows_own ho
      rw [hu op hop] at this
      exact .inl this
  · rcases touch_cases ha with ⟨hi, ha'⟩ | ⟨_, op, ho, _, hop, hoa⟩
    · exact (H.wrote i a g ha' hw hR).app u
    · by_cases e : g = h
      · subst e
        have := knows_own ho
        rwa [hu op hop] at this
      · exact absurd hR ((hs op hop a hoa).2 hw g e)
  · rcases touch_cases ha with ⟨_, ha'⟩ | ⟨_, op, _, _, hop, hoa⟩
    · exact H.shy i a ha' hS
    · exact (hs op hop a hoa).1 hS
  · have hne : h ≠ g := fun e => hM (e ▸ hg)
    exact (Deaf_other t hne u hu).trans (H.hears g hg)
  · rcases Array.mem_append.1 hop with x | x
    · exact MemAct.low_mono hB (H.seen op x)
    · exact hl op x

/-- A BYSTANDER's OPERATIONS: it reads what it may; or it touches a group's cell atomically, unheard. -/
theorem Tr.appBy {g : Nat} (H : Tr Sh Rd Mem Pn Rl B K t) (hK : ∀ i, K i → K' i) (hu : ∀ op ∈ u, op.g = g)
    (hr : ∀ k op, u[k]? = some op → ∀ b, op.act.touch? = some b → (b.write = false ∧ Rd g b.loc) ∨ (Sh b.loc ∧ b.kind = .atomic ∧ (¬ (t ++ u).heard (t.size + k) ∨ Pn g)))
    (hnr : ∀ op ∈ u, ∀ a, op.act ≠ .mark (.release a)) (hd : Mem g → Deaf (t ++ u) g = Deaf t g) (hl : ∀ op ∈ u, op.act.low B) : Tr Sh Rd Mem Pn Rl B K' (t ++ u) := by
  have hr' : ∀ op ∈ u, ∀ b, op.act.touch? = some b → (b.write = false ∧ Rd g b.loc) ∨ (Sh b.loc ∧ b.kind = .atomic) := by
    intro op hop b hb
    obtain ⟨k, hk, e⟩ := Array.mem_iff_getElem.1 hop
    exact (hr k op (by rw [← e]; exact Array.getElem?_eq_getElem hk) b hb).imp id fun x => ⟨x.1, x.2.1⟩
  refine ⟨fun said => noRace_append (H.clean said) hu fun i a ha op hop b hb hc => ?_, fun i a ha hm => ?_, fun i a g' ha hw hR => ?_, fun i a ha hS => ?_, H.apart, fun g' hg' => ?_, fun op hop => (Array.mem_append.1 hop).elim (H.norel op) (hnr op), fun op hop => ?_⟩
  · rcases hr' op hop b hb with ⟨hw, hR⟩ | ⟨hS, hk⟩
    · refine H.wrote i a g ha ?_ (hc.1 ▸ hR)
      rcases hc.2.2.1 with x | x
      · exact x
      · rw [hw] at x; cases x
    · have hak := H.shy i a ha (hc.1 ▸ hS)
      rcases hc.2.2.2 with x | x | ⟨_, _, x⟩
      · exact absurd x hak
      · rw [hk] at x; cases x
      · rw [hk] at x; cases x
  · rcases touch_cases ha with ⟨hi, ha'⟩ | ⟨hi, op, ho, huk, hop, hoa⟩
    · exact H.old hK hi ha' hm
    · rcases hr _ op huk a hoa with ⟨hw, hR⟩ | ⟨hS, hk, hh⟩
      · exact .inr (.inl ⟨hw, g, by rw [g?_of ho, hu op hop], hR⟩)
      · refine .inr (.inr ⟨hS, hk, ?_⟩)
        rw [show t.size + (i - t.size) = i by omega] at hh
        exact hh.imp id fun x => .inl ⟨g, by rw [g?_of ho, hu op hop], x⟩
  · rcases touch_cases ha with ⟨_, ha'⟩ | ⟨_, op, _, _, hop, hoa⟩
    · exact (H.wrote i a g' ha' hw hR).app u
    · rcases hr' op hop a hoa with ⟨hw', _⟩ | ⟨hS, _⟩
      · rw [hw'] at hw; cases hw
      · exact absurd hS (H.apart g' _ hR).1
  · rcases touch_cases ha with ⟨_, ha'⟩ | ⟨_, op, _, _, hop, hoa⟩
    · exact H.shy i a ha' hS
    · rcases hr' op hop a hoa with ⟨_, hR⟩ | ⟨_, hk⟩
      · exact absurd hS (H.apart g _ hR).1
      · rw [hk]; simp
  · by_cases e : g' = g
    · subst e; exact (hd hg').trans (H.hears g' hg')
    · exact (Deaf_other t (fun x => e x.symm) u hu).trans (H.hears g' hg')
  · exact (Array.mem_append.1 hop).elim (H.seen op) (hl op)

/-- A block that is new may be read by whoever made it. -/
theorem Tr.grow {g : Nat} {R : Addr → Prop} (H : Tr Sh Rd Mem Pn Rl B K t) (hRB : ∀ x, R x → x.block = B) (hSh : ∀ x, R x → ¬ Sh (.cell x)) {B' : Nat} (hB : B < B') :
    Tr Sh (fun g' l => Rd g' l ∨ (g' = g ∧ ∃ x : Addr, l = .cell x ∧ R x)) Mem Pn Rl B' K t := by
  refine ⟨H.clean, fun i a ha hm => ?_, fun i a g' ha hw hR => ?_, H.shy, fun g' l hl => ?_, H.hears, H.norel, fun op hop => MemAct.low_mono (Nat.le_of_lt hB) (H.seen op hop)⟩
  · exact (H.known i a ha hm).imp id fun x => x.imp (fun ⟨x, g', hg', hr⟩ => ⟨x, g', hg', .inl hr⟩) id
  · rcases hR with hR | ⟨_, x, hx, hxB⟩
    · exact H.wrote i a g' ha hw hR
    · have := H.fresh ha hx
      have := hRB x hxB
      omega
  · rcases hl with hl | ⟨_, x, rfl, hx⟩
    · exact ⟨(H.apart g' l hl).1, (H.apart g' l hl).2.1, Loc.low_mono (Nat.le_of_lt hB) (H.apart g' l hl).2.2⟩
    · exact ⟨hSh x hx, rfl, by show x.block < B'; rw [hRB x hx]; exact hB⟩

/-- A block that is new is a group's. -/
theorem Tr.group (H : Tr Sh Rd Mem Pn Rl B K t) {b : Nat} (hb : B ≤ b) : Tr (fun l => Sh l ∨ ∃ x : Addr, l = .cell x ∧ x.block = b) Rd Mem Pn Rl B K t := by
  refine ⟨H.clean, fun i a ha hm => ?_, H.wrote, fun i a ha hS => ?_, fun g l hl => ⟨?_, (H.apart g l hl).2.1, (H.apart g l hl).2.2⟩, H.hears, H.norel, H.seen⟩
  · exact (H.known i a ha hm).imp id fun x => x.imp id fun ⟨x, y⟩ => ⟨.inl x, y⟩
  · rcases hS with hS | ⟨x, hx, hxb⟩
    · exact H.shy i a ha hS
    · have := H.fresh ha hx; omega
  · rintro (hS | ⟨x, rfl, hx⟩)
    · exact (H.apart g l hl).1 hS
    · have : x.block < B := (H.apart g _ hl).2.2
      omega

/-- Whoever the holder is: what it may read is its own business. -/
theorem Tr.lose (H : Tr Sh Rd Mem Pn Rl B (Knows t h) t) (R : Loc → Prop) (hR : ∀ l, R l → ¬ Sh l ∧ l.isMemory = true ∧ l.low B) : Tr Sh (fun g l => if g = h then R l else Rd g l) Mem Pn Rl B (Knows t h) t := by
  refine ⟨H.clean, fun i a ha hm => ?_, fun i a g ha hw hr => ?_, H.shy, fun g l hl => ?_, H.hears, H.norel, H.seen⟩
  · rcases H.known i a ha hm with x | ⟨x, g, hg, hr⟩ | x
    · exact .inl x
    · by_cases e : g = h
      · subst e
        obtain ⟨op, ho, _⟩ := touch_of ha
        have := knows_own ho
        rw [show op.g = g from by have := g?_of ho; rw [hg] at this; exact (Option.some.inj this).symm] at this
        exact .inl this
      · exact .inr (.inl ⟨x, g, hg, by rw [if_neg e]; exact hr⟩)
    · exact .inr (.inr x)
  · by_cases e : g = h
    · subst e
      rw [if_pos rfl] at hr
      obtain ⟨hS, hm, _⟩ := hR _ hr
      rcases H.known i a ha hm with x | ⟨x, _⟩ | ⟨x, _⟩
      · exact x
      · rw [x] at hw; cases hw
      · exact absurd x hS
    · rw [if_neg e] at hr
      exact H.wrote i a g ha hw hr
  · by_cases e : g = h
    · subst e; rw [if_pos rfl] at hl; exact hR l hl
    · rw [if_neg e] at hl; exact H.apart g l hl

/-- THE TOKEN PASSES. -/
theorem Tr.give {j : Nat} (H : Tr Sh Rd Mem Pn Rl B (Knows t h) t) (hh : Deaf t h = 0) (hj : Deaf t j = 0) (fh : FuncId) (ph : String) (fj : FuncId) (pj : String) {c : Nat} (k cap : Nat) (hc : c < B) :
    Tr Sh Rd (fun g => Mem g ∨ g = h ∨ g = j) Pn Rl B (Knows (t ++ met h j fh ph fj pj c k cap) j) (t ++ met h j fh ph fj pj c k cap) := by
  have hn := met_mute h j fh ph fj pj c k cap
  have hq : ∀ g, Deaf (t ++ met h j fh ph fj pj c k cap) g = Deaf t g := fun g => Deaf_quiet (met_quiet h j fh ph fj pj c k cap g)
  generalize hu : met h j fh ph fj pj c k cap = u at *
  have e0 : (t ++ u)[t.size]? = some { g := h, fn := fh, pos := ph, act := .send c k } := by subst hu; simp [met]
  have e3 : (t ++ u)[t.size + 3]? = some { g := j, fn := fj, pos := pj, act := .recvDone c k } := by subst hu; simp [met]
  have edge : HappensBefore (t ++ u) t.size (t.size + 3) :=
    Relation.TransGen.single (.inr ⟨.handOver (act?_of e0) (act?_of e3), ⟨h, g?_of e0, by rw [deaf_old (Nat.le_refl _)]; exact hh⟩, ⟨j, g?_of e3, by subst hu; rw [deaf_quiet (met_quiet h j fh ph fj pj c k cap j) 3 (by simp [met])]; exact hj⟩⟩)
  have hkn : ∀ i, Knows t h i → Knows (t ++ u) j i := fun i hk => ⟨t.size + 3, _, e3, rfl, .inr ((hk.hb_new (Nat.le_refl _) e0 rfl).trans edge)⟩
  refine ⟨fun said => noRace_appendMute (H.clean said) hn, fun i a ha hm => ?_, fun i a g ha hw hR => ?_, fun i a ha hS => ?_, H.apart, fun g hg => ?_, fun op hop a => (Array.mem_append.1 hop).elim (fun x => H.norel op x a) (fun x => ?_), fun op hop => ?_⟩
  · rcases touch_cases ha with ⟨hi, ha'⟩ | ⟨_, op, _, _, hop, hoa⟩
    · exact H.old hkn hi ha' hm
    · rw [hn op hop] at hoa; cases hoa
  · rcases touch_cases ha with ⟨_, ha'⟩ | ⟨_, op, _, _, hop, hoa⟩
    · exact (H.wrote i a g ha' hw hR).app u
    · rw [hn op hop] at hoa; cases hoa
  · rcases touch_cases ha with ⟨_, ha'⟩ | ⟨_, op, _, _, hop, hoa⟩
    · exact H.shy i a ha' hS
    · rw [hn op hop] at hoa; cases hoa
  · rw [hq]
    rcases hg with hg | rfl | rfl
    · exact H.hears g hg
    · exact hh
    · exact hj
  · subst hu
    simp only [met, List.mem_toArray, List.mem_cons, List.not_mem_nil, or_false] at x
    rcases x with rfl | rfl | rfl | rfl <;> simp
  · rcases Array.mem_append.1 hop with x | x
    · exact H.seen op x
    · subst hu
      simp only [met, List.mem_toArray, List.mem_cons, List.not_mem_nil, or_false] at x
      rcases x with rfl | rfl | rfl | rfl <;> exact hc

/-- A go STATEMENT OF THE HOLDER's: the child may read whatever is no group's cell. -/
theorem Tr.hire {c : Nat} (H : Tr Sh Rd Mem Pn Rl B (Knows t h) t) (hh : Deaf t h = 0) (hc0 : Deaf t c = 0) (hRc : ∀ l, ¬ Rd c l) (R : Loc → Prop) (hR : ∀ l, R l → ¬ Sh l ∧ l.isMemory = true ∧ l.low B) (fh : FuncId) (ph : String) (fc : FuncId) :
    Tr Sh (fun g l => Rd g l ∨ (g = c ∧ R l)) (fun g => Mem g ∨ g = c) Pn Rl B (Knows (t ++ #[{ g := h, fn := fh, pos := ph, act := .go c }, { g := c, fn := fc, pos := ph, act := .start }]) h)
      (t ++ #[{ g := h, fn := fh, pos := ph, act := .go c }, { g := c, fn := fc, pos := ph, act := .start }]) := by
  generalize hu : (#[{ g := h, fn := fh, pos := ph, act := .go c }, { g := c, fn := fc, pos := ph, act := .start }] : Trace) = u
  have hn : ∀ op ∈ u, op.act.touch? = none := by
    intro op hop
    subst hu
    simp only [List.mem_toArray, List.mem_cons, List.not_mem_nil, or_false] at hop
    rcases hop with rfl | rfl <;> rfl
  have hq : ∀ g, ∀ op ∈ u, ∀ d, deafStep g d op = d := by
    intro g op hop d
    subst hu
    simp only [List.mem_toArray, List.mem_cons, List.not_mem_nil, or_false] at hop
    rcases hop with rfl | rfl <;> rfl
  have e0 : (t ++ u)[t.size]? = some { g := h, fn := fh, pos := ph, act := .go c } := by subst hu; simp
  have e1 : (t ++ u)[t.size + 1]? = some { g := c, fn := fc, pos := ph, act := .start } := by subst hu; simp
  have edge : HappensBefore (t ++ u) t.size (t.size + 1) :=
    Relation.TransGen.single (.inr ⟨.spawn (act?_of e0) (act?_of e1) (g?_of e1), ⟨h, g?_of e0, by rw [deaf_old (Nat.le_refl _)]; exact hh⟩, ⟨c, g?_of e1, by rw [deaf_quiet (hq c) 1 (by subst hu; simp)]; exact hc0⟩⟩)
  refine ⟨fun said => noRace_appendMute (H.clean said) hn, fun i a ha hm => ?_, fun i a g ha hw hr => ?_, fun i a ha hS => ?_, fun g l hl => ?_, fun g hg => (Deaf_quiet (hq g)).trans (hg.elim (H.hears g) fun e => e ▸ hc0), fun op hop a => (Array.mem_append.1 hop).elim (fun x => H.norel op x a) (fun x => ?_), fun op hop => ?_⟩
  · rcases touch_cases ha with ⟨hi, ha'⟩ | ⟨_, op, _, _, hop, hoa⟩
    · exact (H.old (u := u) (fun i => Knows.app u) hi ha' hm).imp id fun x => x.imp (fun ⟨x, g, hg, hr⟩ => ⟨x, g, hg, .inl hr⟩) id
    · rw [hn op hop] at hoa; cases hoa
  · rcases touch_cases ha with ⟨hi, ha'⟩ | ⟨_, op, _, _, hop, hoa⟩
    · rcases hr with hr | ⟨rfl, hr⟩
      · exact (H.wrote i a g ha' hw hr).app u
      · obtain ⟨hS, hm, _⟩ := hR _ hr
        have hk : Knows t h i := by
          rcases H.known i a ha' hm with x | ⟨x, _⟩ | ⟨x, _⟩
          · exact x
          · rw [x] at hw; cases hw
          · exact absurd x hS
        exact ⟨t.size + 1, _, e1, rfl, .inr ((hk.hb_new (Nat.le_refl _) e0 rfl).trans edge)⟩
    · rw [hn op hop] at hoa; cases hoa
  · rcases touch_cases ha with ⟨_, ha'⟩ | ⟨_, op, _, _, hop, hoa⟩
    · exact H.shy i a ha' hS
    · rw [hn op hop] at hoa; cases hoa
  · rcases hl with hl | ⟨_, hl⟩
    · exact H.apart g l hl
    · exact hR l hl
  · subst hu
    simp only [List.mem_toArray, List.mem_cons, List.not_mem_nil, or_false] at x
    rcases x with rfl | rfl <;> simp
  · rcases Array.mem_append.1 hop with x | x
    · exact H.seen op x
    · subst hu
      simp only [List.mem_toArray, List.mem_cons, List.not_mem_nil, or_false] at x
      rcases x with rfl | rfl <;> trivial

/-- A GOROUTINE SAYS ITS RELEASE, HEARING. -/
theorem Tr.rel {g : Nat} {a : Addr} (H : Tr Sh Rd Mem Pn Rl B (Knows t h) t) (hRl : Rl a) (hd : Deaf t g = 0) (hb : a.block < B) (fn : FuncId) (pos : String) :
    Tr Sh Rd Mem (fun x => Pn x ∧ x ≠ g) Rl B (Knows (t ++ #[{ g := g, fn := fn, pos := pos, act := .mark (.releaseMerge a) }]) h) (t ++ #[{ g := g, fn := fn, pos := pos, act := .mark (.releaseMerge a) }]) := by
  generalize hu : (#[{ g := g, fn := fn, pos := pos, act := .mark (.releaseMerge a) }] : Trace) = u
  have hn : ∀ op ∈ u, op.act.touch? = none := by
    intro op hop
    subst hu
    simp only [List.mem_toArray, List.mem_cons, List.not_mem_nil, or_false] at hop
    subst hop; rfl
  have hq : ∀ g', ∀ op ∈ u, ∀ d, deafStep g' d op = d := by
    intro g' op hop d
    subst hu
    simp only [List.mem_toArray, List.mem_cons, List.not_mem_nil, or_false] at hop
    subst hop; rfl
  have e0 : (t ++ u)[t.size]? = some { g := g, fn := fn, pos := pos, act := .mark (.releaseMerge a) } := by subst hu; simp
  have hlate : ∀ i, i < t.size → Late Pn Rl t i → Late (fun x => Pn x ∧ x ≠ g) Rl (t ++ u) i := by
    intro i hi hl
    rcases hl.app u hi with x | ⟨g', hg', hp⟩ | x
    · exact .inl x
    · by_cases e : g' = g
      · subst e
        obtain ⟨op, ho, hog⟩ := Option.map_eq_some_iff.1 hg'
        exact .inr (.inr ⟨t.size, a, hRl, act?_of e0, ⟨g', g?_of e0, by rw [deaf_old (Nat.le_refl _)]; exact hd⟩, .inr (hb_po hi ho e0 hog)⟩)
      · exact .inr (.inl ⟨g', hg', hp, e⟩)
    · exact .inr (.inr x)
  refine ⟨fun said => noRace_appendMute (H.clean said) hn, fun i x ha hm => ?_, fun i x g' ha hw hR => ?_, fun i x ha hS => ?_, H.apart, fun g' hg' => (Deaf_quiet (hq g')).trans (H.hears g' hg'), fun op hop b => (Array.mem_append.1 hop).elim (fun x => H.norel op x b) (fun x => ?_), fun op hop => ?_⟩
  · rcases touch_cases ha with ⟨hi, ha'⟩ | ⟨_, op, _, _, hop, hoa⟩
    · rcases H.known i x ha' hm with y | ⟨y, g', hg', hr⟩ | ⟨y, z, hl⟩
      · exact .inl (y.app u)
      · exact .inr (.inl ⟨y, g', by rw [g?_old hi]; exact hg', hr⟩)
      · exact .inr (.inr ⟨y, z, hlate i hi hl⟩)
    · rw [hn op hop] at hoa; cases hoa
  · rcases touch_cases ha with ⟨_, ha'⟩ | ⟨_, op, _, _, hop, hoa⟩
    · exact (H.wrote i x g' ha' hw hR).app u
    · rw [hn op hop] at hoa; cases hoa
  · rcases touch_cases ha with ⟨_, ha'⟩ | ⟨_, op, _, _, hop, hoa⟩
    · exact H.shy i x ha' hS
    · rw [hn op hop] at hoa; cases hoa
  · subst hu
    simp only [List.mem_toArray, List.mem_cons, List.not_mem_nil, or_false] at x
    subst x; simp
  · rcases Array.mem_append.1 hop with x | x
    · exact H.seen op x
    · subst hu
      simp only [List.mem_toArray, List.mem_cons, List.not_mem_nil, or_false] at x
      subst x; exact hb

/-- THE HOLDER SAYS ITS ACQUIRE, HEARING: all that was released is known to it. -/
theorem Tr.acq {a : Addr} (H : Tr Sh Rd Mem Pn Rl B (Knows t h) t) (hRl : ∀ x, Rl x → x = a) (hd : Deaf t h = 0) (hb : a.block < B) (fn : FuncId) (pos : String) :
    Tr Sh Rd Mem Pn (fun _ => False) B (Knows (t ++ #[{ g := h, fn := fn, pos := pos, act := .mark (.acquire a) }]) h) (t ++ #[{ g := h, fn := fn, pos := pos, act := .mark (.acquire a) }]) := by
  generalize hu : (#[{ g := h, fn := fn, pos := pos, act := .mark (.acquire a) }] : Trace) = u
  have hn : ∀ op ∈ u, op.act.touch? = none := by
    intro op hop
    subst hu
    simp only [List.mem_toArray, List.mem_cons, List.not_mem_nil, or_false] at hop
    subst hop; rfl
  have hq : ∀ g', ∀ op ∈ u, ∀ d, deafStep g' d op = d := by
    intro g' op hop d
    subst hu
    simp only [List.mem_toArray, List.mem_cons, List.not_mem_nil, or_false] at hop
    subst hop; rfl
  have e0 : (t ++ u)[t.size]? = some { g := h, fn := fn, pos := pos, act := .mark (.acquire a) } := by subst hu; simp
  refine ⟨fun said => noRace_appendMute (H.clean said) hn, fun i x ha hm => ?_, fun i x g' ha hw hR => ?_, fun i x ha hS => ?_, H.apart, fun g' hg' => (Deaf_quiet (hq g')).trans (H.hears g' hg'), fun op hop b => (Array.mem_append.1 hop).elim (fun x => H.norel op x b) (fun x => ?_), fun op hop => ?_⟩
  · rcases touch_cases ha with ⟨hi, ha'⟩ | ⟨_, op, _, _, hop, hoa⟩
    · rcases H.known i x ha' hm with y | ⟨y, g', hg', hr⟩ | ⟨y, z, hl⟩
      · exact .inl (y.app u)
      · exact .inr (.inl ⟨y, g', by rw [g?_old hi]; exact hg', hr⟩)
      · rcases hl.app u hi with p | p | ⟨r, b, hR, hr, hh, hbf⟩
        · exact .inr (.inr ⟨y, z, .inl p⟩)
        · exact .inr (.inr ⟨y, z, .inr (.inl p)⟩)
        · obtain rfl := hRl b hR
          have hrl : r < t.size := by
            rcases Nat.lt_or_ge r t.size with q | q
            · exact q
            · have hlt := lt_of_act? hr
              have : r = t.size := by subst hu; simp at hlt; omega
              subst this
              rw [act?_of e0] at hr
              cases hr
          have edge : HappensBefore (t ++ u) r t.size :=
            Relation.TransGen.single (.inr ⟨.marked hrl (.inr hr) (act?_of e0) (fun k h1 h2 e => by
              rw [act?_old h2] at e
              obtain ⟨op, ho, hoa⟩ := Option.map_eq_some_iff.1 e
              exact H.norel op (Array.mem_of_getElem? ho) _ hoa), hh, ⟨h, g?_of e0, by rw [deaf_old (Nat.le_refl _)]; exact hd⟩⟩)
          exact .inl ⟨t.size, _, e0, rfl, .inr (hbf.hb edge)⟩
    · rw [hn op hop] at hoa; cases hoa
  · rcases touch_cases ha with ⟨_, ha'⟩ | ⟨_, op, _, _, hop, hoa⟩
    · exact (H.wrote i x g' ha' hw hR).app u
    · rw [hn op hop] at hoa; cases hoa
  · rcases touch_cases ha with ⟨_, ha'⟩ | ⟨_, op, _, _, hop, hoa⟩
    · exact H.shy i x ha' hS
    · rw [hn op hop] at hoa; cases hoa
  · subst hu
    simp only [List.mem_toArray, List.mem_cons, List.not_mem_nil, or_false] at x
    subst x; simp
  · rcases Array.mem_append.1 hop with x | x
    · exact H.seen op x
    · subst hu
      simp only [List.mem_toArray, List.mem_cons, List.not_mem_nil, or_false] at x
      subst x; exact hb

/-- Only goroutine 0's and unheard touches: all is handed over. -/
theorem Tr.over (H : Tr Sh Rd Mem Pn Rl B (Knows t 0) t) (hR : ∀ g l, ¬ Rd g l) (hP : ∀ g, ¬ Pn g) (hA : ∀ a, ¬ Rl a) : t.HandedOver := by
  intro i g hg hne ⟨x, hx, hm, hk⟩
  rcases H.known i x hx hm with hk' | ⟨_, g', _, hr⟩ | ⟨_, ha, hh⟩
  · obtain ⟨q, z, hq, hz, hb⟩ := hk'
    rcases hb with rfl | hb
    · rw [g?_of hq, hz] at hg
      exact absurd (Option.some.inj hg).symm hne
    · exact ⟨q, by rw [g?_of hq, hz], hb⟩
  · exact absurd hr (hR g' _)
  · rcases hk with hk | hk
    · exact absurd ha hk
    · rcases hh with hh | ⟨g', _, hp⟩ | ⟨r, a, hRl, _⟩
      · exact absurd hk hh
      · exact absurd hp (hP g')
      · exact absurd hRl (hA a)
end
end Cw
end
end Go.Proofs.Ytggfcdhkgldbfaa
