/-
  PARTS of a claim, merged by segs.py: Reg, RenK, Ps5.
-/
import Derived.Test.YtnbacdmlaedppaaGreatDoorQ12
import Derived.Test.YtnbacdmlaedppaaGreatDoorQ14
import Derived.Test.YtnbacdmlaedppaaGreatDoorQ18
import Derived.Orders
import Derived.Tactics
import Derived.RegionTactic
import Derived.ArgAppend
import Derived.Deep.RegionLaw
import Derived.Deep.DeepCutAuto
namespace Go.Proofs.YtnbacdmlaedppaaGreatDoor

/-! ### Reg -/
section

section
variable {P : Program} {Q : Exit → Act → World → Prop}

/-- The post of one operation: what K says where it ends as it should. -/
def thenK (Q : Exit → Act → World → Prop) (K : Act → World → Prop) : Exit → Act → World → Prop
  | .normal, a, w => K a w
  | e, a, w => Q e a w

theorem letsOut_thenK {K : Act → World → Prop} (h : LetsOut (thenK Q K)) : LetsOut Q := h

theorem opwp_thenK {K : Act → World → Prop} {o : Oper} {a : Act} {w : World} (h : o.wp P a w K (thenK Q K)) : o.wp P a w K Q := by
  unfold Oper.wp at *
  generalize (execOp a.eval o).run P w = r at *
  cases r with
  | ok n w' =>
    cases n <;> simp only [Oper.upon] at h ⊢ <;> first | exact h | skip
  | halt x w' => cases x <;> simp only [Oper.upon] at h ⊢ <;> exact h

theorem wpOp_of_list {ops : Array Oper} {K : Act → World → Prop} {i : Nat} {o : Oper} (hi : ops[i]? = some o) {a : Act} {w : World} (h : wpList P ops (thenK Q K) [o] a w) : wpOp P ops Q i K a w := by
  unfold wpOp
  simp only [hi]
  unfold wpList at h
  split
  · rename_i hw
    rw [if_pos hw] at h
    exact h.imp opwp_thenK id
  · rename_i hw
    rw [if_neg hw] at h
    exact h

/-- What has come up, behind operation i. -/
def upd (d : Nat → Bool) (i : Nat) : Nat → Bool := fun j => if j = i then true else d j

/-- Each operation of the list, from number k on, takes the invariant on. -/
def allSteps (P : Program) (ops : Array Oper) (Q : Exit → Act → World → Prop) (I : (Nat → Bool) → Act → World → Prop) : List Oper → Nat → Prop
  | [], _ => True
  | o :: rest, k => (∀ d a w, I d a w → d k = false → (∀ e ∈ o.after, Region.binds .any e = true → d e.on = true) → wpList P ops (thenK Q (I (upd d k))) [o] a w) ∧ allSteps P ops Q I rest (k + 1)

theorem allSteps_at {ops : Array Oper} {I : (Nat → Bool) → Act → World → Prop} : ∀ {l : List Oper} {k : Nat}, allSteps P ops Q I l k → ∀ {i : Nat} {o : Oper}, l[i]? = some o → ∀ d a w, I d a w → d (k + i) = false → (∀ e ∈ o.after, Region.binds .any e = true → d e.on = true) → wpList P ops (thenK Q (I (upd d (k + i)))) [o] a w := by
  intro l
  induction l with
  | nil => intro k _ i o h; simp at h
  | cons x l ih =>
    intro k h i o hi
    cases i with
    | zero =>
      obtain rfl : x = o := by simpa using hi
      exact h.1
    | succ i =>
      have := ih h.2 (i := i) (o := o) (by simpa using hi)
      intro d a w
      have := this d a w
      rw [show k + 1 + i = k + (i + 1) by omega] at this
      exact this

def early (l : List Oper) : Bool := (List.range l.length).all fun i => match l[i]? with
  | some o => o.after.all fun e => decide (e.on < i)
  | none => true

theorem getD_upd {listed : Array Bool} {i : Nat} (hi : i < listed.size) (j : Nat) : (listed.setIfInBounds i true).getD j true = upd (fun j => listed.getD j true) i j := by
  unfold upd
  by_cases h : j = i
  · subst h; simp [hi]
  · rw [if_neg h, getD_set_ne true (Ne.symm h)]

theorem countP_le {p q : Nat → Bool} : ∀ {l : List Nat}, (∀ j ∈ l, q j = true → p j = true) → l.countP q ≤ l.countP p
  | [], _ => by simp
  | x :: l, h => by
    have ih := countP_le (l := l) fun j hj => h j (List.mem_cons_of_mem _ hj)
    have hx := h x (List.mem_cons_self ..)
    simp only [List.countP_cons]
    cases hq : q x <;> cases hp : p x <;> simp_all <;> omega
theorem countP_lt {p q : Nat → Bool} {i : Nat} : ∀ {l : List Nat}, (∀ j ∈ l, q j = true → p j = true) → i ∈ l → p i = true → q i = false → l.countP q < l.countP p
  | [], _, hi, _, _ => by cases hi
  | x :: l, h, hi, h1, h2 => by
    have hle := countP_le (l := l) fun j hj => h j (List.mem_cons_of_mem _ hj)
    have hx := h x (List.mem_cons_self ..)
    simp only [List.countP_cons]
    rcases List.mem_cons.1 hi with rfl | hi
    · simp [h1, h2]; omega
    · have ih := countP_lt (l := l) (fun j hj => h j (List.mem_cons_of_mem _ hj)) hi h1 h2
      cases hq : q x <;> cases hp : p x <;> simp_all <;> omega

def togo (n : Nat) (listed : Array Bool) : Nat := (List.range n).countP fun j => !listed.getD j true

theorem early_at {l : List Oper} (h : early l = true) {i : Nat} {o : Oper} (ho : l[i]? = some o) : ∀ e ∈ o.after, e.on < i := by
  intro e he
  have hi : i < l.length := (List.getElem?_eq_some_iff.1 ho).1
  have := List.all_eq_true.1 h i (List.mem_range.2 hi)
  simp only [ho] at this
  obtain ⟨k, hk, rfl⟩ := Array.mem_iff_getElem.1 he
  have := Array.all_eq_true.1 this k hk
  simpa using this

/-- Where an operation is left, one may come up: the least one. -/
theorem ready_of_left {l : List Oper} (h : early l = true) {listed : Array Bool} (hs : listed.size = l.length) : ∀ i, i < l.length → listed.getD i true = false → ∃ j, j ∈ Region.ready .any l.toArray listed := by
  intro i
  induction i using Nat.strongRecOn with
  | ind i ih =>
    intro hi hf
    obtain ⟨o, ho⟩ : ∃ o, l[i]? = some o := ⟨_, List.getElem?_eq_getElem hi⟩
    by_cases hall : ∀ e ∈ o.after, Region.binds .any e = true → listed.getD e.on false = true
    · exact ⟨i, mem_ready.2 ⟨hf, o, by simpa using ho, hall⟩⟩
    · have hall := Classical.not_forall.1 hall
      obtain ⟨e, he⟩ := hall
      obtain ⟨he, hb⟩ := Classical.not_imp.1 he
      obtain ⟨_, hb⟩ := Classical.not_imp.1 hb
      have hlt := early_at h ho e he
      refine ih e.on hlt (by omega) ?_
      have hlt' : e.on < listed.size := by omega
      simpa [hlt'] using hb

theorem wpAny_inv {l : List Oper} (h : early l = true) {I : (Nat → Bool) → Act → World → Prop} (hst : allSteps P l.toArray Q I l 0) (fin : ∀ d a w, I d a w → (∀ j, d j = true) → Q .normal a w) :
    ∀ (fuel : Nat) (listed : Array Bool) (a : Act) (w : World), listed.size = l.length → togo l.length listed ≤ fuel → I (fun j => listed.getD j true) a w → wpAny P .any l.toArray Q fuel listed a w := by
  have all_of : ∀ (listed : Array Bool), listed.size = l.length → Region.ready .any l.toArray listed = [] → ∀ j, listed.getD j true = true := by
    intro listed hs hr j
    cases hb : listed.getD j true with
    | true => rfl
    | false =>
      have hj : j < l.length := by
        rcases Nat.lt_or_ge j listed.size with h' | h'
        · omega
        · simp [Array.getElem?_eq_none h'] at hb
      obtain ⟨k, hk⟩ := ready_of_left h hs j hj hb
      rw [hr] at hk
      cases hk
  intro fuel
  induction fuel with
  | zero =>
    intro listed a w hs hf hI
    have hz : ∀ j, listed.getD j true = true := by
      intro j
      cases hb : listed.getD j true with
      | true => rfl
      | false =>
        have hj : j < l.length := by
          rcases Nat.lt_or_ge j listed.size with h' | h'
          · omega
          · simp [Array.getElem?_eq_none h'] at hb
        have : 0 < togo l.length listed := List.countP_pos_iff.2 ⟨j, List.mem_range.2 hj, by rw [hb]; rfl⟩
        omega
    refine ⟨?_, fin _ a w hI hz⟩
    cases hr : Region.ready .any l.toArray listed with
    | nil => rfl
    | cons x xs =>
      have : x ∈ Region.ready .any l.toArray listed := by rw [hr]; exact List.mem_cons_self ..
      have := (mem_ready.1 this).1
      rw [hz x] at this
      cases this
  | succ fuel ih =>
    intro listed a w hs hf hI
    refine ⟨fun hr => fin _ a w hI (all_of listed hs hr), fun i hi => ?_⟩
    obtain ⟨hun, o, ho, haft⟩ := mem_ready.1 hi
    have hlt : i < l.length := by simpa using (Array.getElem?_eq_some_iff.1 ho).1
    have ho' : l[i]? = some o := by simpa using ho
    have hs0 := allSteps_at hst ho' (fun j => listed.getD j true) a w hI (by simpa using hun) (fun e he hb => by
      have h1 := haft e he hb
      have h2 : e.on < listed.size := by have := early_at h ho' e he; omega
      simp [h2] at h1 ⊢
      exact h1)
    rw [Nat.zero_add] at hs0
    refine wpOp_mono (fun a' w' hI' => ih _ a' w' (by simpa using hs) ?_ ?_) (wpOp_of_list ho hs0)
    · have : togo l.length (listed.setIfInBounds i true) < togo l.length listed := by
        refine countP_lt (i := i) (fun j hj hq => ?_) (List.mem_range.2 hlt) (by simpa using hun) (by rw [getD_upd (by omega)]; simp [upd])
        rw [getD_upd (by omega)] at hq
        unfold upd at hq
        by_cases hji : j = i
        · rw [if_pos hji] at hq; cases hq
        · rw [if_neg hji] at hq; exact hq
      omega
    · have : (fun j => (listed.setIfInBounds i true).getD j true) = upd (fun j => listed.getD j true) i := funext fun j => getD_upd (by omega) j
      rw [this]
      exact hI'

/-- A region that draws its order, by an invariant over what has come up: each operation once. -/
theorem wp_region_inv {l : List Oper} {id : Nat} {a : Act} {w : World} (I : (Nat → Bool) → Act → World → Prop) (hm : P.follows .mixedOrders = true) (h : early l = true) (h0 : I (fun j => decide (l.length ≤ j)) a w.drew)
    (hst : allSteps P l.toArray Q I l 0) (fin : ∀ d a w, I d a w → (∀ j, d j = true) → Q .normal a w) : (Code.region id l.toArray true).wp P Q a w := by
  refine wp_region_any hm ?_
  refine wpAny_inv h hst fin _ _ _ _ (by simp) ?_ ?_
  · unfold togo
    refine Nat.le_trans List.countP_le_length (by simp)
  · have : (fun j => (Array.replicate l.toArray.size false).getD j true) = (fun j => decide (l.length ≤ j)) := by
      funext j
      by_cases hj : j < l.length <;> simp [hj] <;> omega
    rw [this]
    exact h0


/-- What has come up came up behind what it waits for. -/
def closedB (l : List Oper) (d : Nat → Bool) : Prop := ∀ i o, l[i]? = some o → d i = true → ∀ e ∈ o.after, Region.binds .any e = true → d e.on = true
/-- As allSteps, with that. -/
def allSteps2 (P : Program) (l0 : List Oper) (Q : Exit → Act → World → Prop) (I : (Nat → Bool) → Act → World → Prop) : List Oper → Nat → Prop
  | [], _ => True
  | o :: rest, k => (∀ d a w, I d a w → closedB l0 d → d k = false → (∀ e ∈ o.after, Region.binds .any e = true → d e.on = true) → wpList P l0.toArray (thenK Q (I (upd d k))) [o] a w) ∧ allSteps2 P l0 Q I rest (k + 1)
theorem wpOne_mono {ops : Array Oper} {K K' : Act → World → Prop} {o : Oper} {a : Act} {w : World} (h : ∀ a w, K a w → K' a w) (hh : wpList P ops (thenK Q K) [o] a w) : wpList P ops (thenK Q K') [o] a w := by
  have hop : o.wp P a w (wpList P ops (thenK Q K) []) (thenK Q K) → o.wp P a w (wpList P ops (thenK Q K') []) (thenK Q K') := by
    intro h1
    have h2 : o.wp P a w K Q := opwp_thenK (Oper.wp_mono (fun a w h => h) h1)
    have h3 : o.wp P a w K' Q := Oper.wp_mono h h2
    unfold Oper.wp at *
    generalize (execOp a.eval o).run P w = r at *
    cases r with
    | ok n w' =>
      cases n <;> simp only [Oper.upon] at h3 ⊢ <;> first | exact h3 | skip
    | halt x w' => cases x <;> simp only [Oper.upon] at h3 ⊢ <;> exact h3
  unfold wpList at hh ⊢
  split
  · rename_i hw
    rw [if_pos hw] at hh
    exact hh.imp hop id
  · rename_i hw
    rw [if_neg hw] at hh
    exact h _ _ hh
theorem allSteps_of {l0 : List Oper} {I : (Nat → Bool) → Act → World → Prop} : ∀ {l : List Oper} {k : Nat}, (∀ i o, l[i]? = some o → l0[k + i]? = some o) → allSteps2 P l0 Q I l k → allSteps P l0.toArray Q (fun d a w => I d a w ∧ closedB l0 d) l k
  | [], _, _, _ => trivial
  | o :: l, k, hl, h => by
    refine ⟨fun d a w ⟨hI, hc⟩ hk haft => ?_, allSteps_of (fun i x hx => by have := hl (i + 1) x (by simpa using hx); rwa [show k + (i + 1) = k + 1 + i by omega] at this) h.2⟩
    have ho : l0[k]? = some o := by have := hl 0 o rfl; simpa using this
    refine wpOne_mono (fun a' w' hI' => ⟨hI', ?_⟩) (h.1 d a w hI hc hk haft)
    intro i x hx hd e he hb
    unfold upd at hd ⊢
    by_cases hek : e.on = k
    · rw [if_pos hek]
    · rw [if_neg hek]
      by_cases hik : i = k
      · subst hik
        rw [ho] at hx
        injection hx with hx
        subst hx
        exact haft e he hb
      · rw [if_neg hik] at hd
        exact hc i x hx hd e he hb
/-- The same, and what an operation waits for has come up ahead of it. -/
theorem wp_region_inv2 {l : List Oper} {id : Nat} {a : Act} {w : World} (I : (Nat → Bool) → Act → World → Prop) (hm : P.follows .mixedOrders = true) (h : early l = true) (h0 : I (fun j => decide (l.length ≤ j)) a w.drew)
    (hst : allSteps2 P l Q I l 0) (fin : ∀ d a w, I d a w → (∀ j, d j = true) → Q .normal a w) : (Code.region id l.toArray true).wp P Q a w := by
  refine wp_region_inv (fun d a w => I d a w ∧ closedB l d) hm h ⟨h0, ?_⟩ (allSteps_of (fun i o hi => by simpa using hi) hst) (fun d a w hI hd => fin d a w hI.1 hd)
  intro i o hi hd e he hb
  have := (List.getElem?_eq_some_iff.1 hi).1
  simp at hd
  omega

end
end

/-! ### RenK -/
section
open Go.RowKit

theorem infoTrmN : (Tryz.prog.info? 146).map (fun i => (i.zero, i.size, i.bytes)) = some (some (.agg #[.string ⟨#[]⟩, .int .i64 0, .int .i64 0, .string ⟨#[]⟩]), 4, 48) := by kernel_rfl
theorem infoAtmN : (Tryz.prog.info? 111).map (fun i => (i.zero, i.size, i.bytes)) = some (some (.agg #[.bool false, .string ⟨#[]⟩, .slice none 0 0]), 3, 48) := by kernel_rfl
theorem infoCndN : (Tryz.prog.info? 115).map (fun i => (i.zero, i.size, i.bytes)) = some (some (.agg #[.string ⟨#[]⟩, .int .i64 0, .int .i64 0, .int .i64 0, .string ⟨#[]⟩]), 5, 56) := by kernel_rfl
theorem infoRulN : (Tryz.prog.info? 42).map (fun i => (i.zero, i.size, i.bytes)) = some (some (.agg #[.slice none 0 0, .slice none 0 0]), 2, 48) := by kernel_rfl
theorem infoKeyN : (Tryz.prog.info? 37).map (fun i => (i.zero, i.size, i.bytes)) = some (some (.agg #[.string ⟨#[]⟩, .bool false]), 2, 24) := by kernel_rfl
theorem infoQryN : (Tryz.prog.info? 27).map (·.size) = some 5 := by kernel_rfl
theorem rcell {w : World} {b o : Nat} {vs : Array Value} {e : TypeId} (h : w.heap[b]? = some (.cells vs e (0, 0))) {v : Value} (hv : vs[o]? = some v) : w.cell? ⟨b, o, none⟩ = some v := by
  rw [cell_res' h]; exact hv
theorem rbox {w : World} {b : Nat} {v0 v1 v2 v3 v4 : Value} {t : TypeId} (h : w.heap[b]? = some (.cells #[v0, v1, v2, v3, v4] t (0, 0))) :
    w.cell? ⟨b, 0, none⟩ = some v0 ∧ w.cell? ⟨b, 1, none⟩ = some v1 ∧ w.cell? ⟨b, 2, none⟩ = some v2 ∧ w.cell? ⟨b, 3, none⟩ = some v3 ∧ w.cell? ⟨b, 4, none⟩ = some v4 ∧ b < w.heap.size :=
  ⟨rcell h rfl, rcell h rfl, rcell h rfl, rcell h rfl, rcell h rfl, lt_of_block h⟩
theorem rcell2 {w : World} {b : Nat} {v0 v1 : Value} {t : TypeId} (h : w.heap[b]? = some (.cells #[v0, v1] t (0, 0))) : w.cell? ⟨b, 0, none⟩ = some v0 ∧ w.cell? ⟨b, 1, none⟩ = some v1 := ⟨rcell h rfl, rcell h rfl⟩
theorem rcell3 {w : World} {b : Nat} {v0 v1 v2 : Value} {t : TypeId} (h : w.heap[b]? = some (.cells #[v0, v1, v2] t (0, 0))) : w.cell? ⟨b, 0, none⟩ = some v0 ∧ w.cell? ⟨b, 1, none⟩ = some v1 ∧ w.cell? ⟨b, 2, none⟩ = some v2 := ⟨rcell h rfl, rcell h rfl, rcell h rfl⟩
theorem rthenK_n {Q : Exit → Act → World → Prop} {K : Act → World → Prop} {a : Act} {w : World} (h : K a w) : thenK Q K .normal a w := h
theorem rkf {d : Nat → Bool} {i j : Nat} {A B : Prop} (hne : (j == i) = false) (f : Hid (d j = true → A)) (g : A → B) : Hid (upd d i j = true → B) := hid fun h => g (f.out (by
  have : j ≠ i := by simpa using hne
  unfold upd at h
  rwa [if_neg this] at h))
theorem rkd {d : Nat → Bool} {i j : Nat} (hne : (j == i) = false) (f : Hid (d j = false)) : upd d i j = false := by
  have : j ≠ i := by simpa using hne
  unfold upd
  rw [if_neg this]
  exact f.out
theorem rnf {d : Nat → Bool} {i : Nat} {B : Prop} (b : B) : Hid (upd d i i = true → B) := hid fun _ => b
theorem runupd {d : Nat → Bool} {i j : Nat} (hne : (j == i) = false) (h : upd d i j = false) : d j = false := by
  have : j ≠ i := by simpa using hne
  unfold upd at h
  rwa [if_neg this] at h
theorem rupd_self {d : Nat → Bool} {i : Nat} (h : upd d i i = false) : False := by
  unfold upd at h
  rw [if_pos rfl] at h
  cases h
theorem ren_cells {w : World} {g : Nat} {cs : Array Value} {e : TypeId} (h : w.heap[g]? = some (.cells cs e (0, 0))) {l : List Value} (hl : cs.toList = l) : ∀ j u, l[j]? = some u → w.cell? (Addr.add ⟨g, 0, none⟩ j) = some u := by
  intro j u hj
  subst hl
  rw [Addr.add_lit, Nat.zero_add, cell_res' h]
  simpa using hj
theorem ren_one {l : List Value} (h : l.all (·.oneCell') = true) : ∀ u ∈ l, u.oneCell' = true := fun u hu => List.all_eq_true.1 h u hu
end

/-! ### Ps5 -/
section
open Go.RowKit

theorem box_set5 {w : World} {g : Nat} {cs : Array Value} {t : TypeId} (h : w.heap[g]? = some (.cells cs t)) (i : Nat) (v : Value) : (w.setCell ⟨g, i, none⟩ v).heap[g]? = some (.cells (cs.setIfInBounds i v) t) := by
  simp [World.setCell, Array.getElem?_modify, h]
set_option maxRecDepth 100000 in
set_option maxHeartbeats 8000000 in
theorem ref_item (A : Option Addr) (c n i B : Nat) (L : List Tok) (ua uc : Value) (r : Rul) (w : World) (hT : RefTk w A L) (hA : TokB A B) (hB : B ≤ w.heap.size) (hr : OwnRl w B ua uc r) (ha : r.atoms.length ≤ 1000) (hc : r.conds.length ≤ 1000) (hi : i < L.length) (hn : n = L.length + 3) {x : Out Rul} (hx : itemS (tkL L) L.length i r = x) :
    Calls Tryz.prog 66 #[.slice A n c, .int .i64 i, .agg #[ua, uc]] w (RetRu B w x) := by
  obtain ⟨a0, ha0, ha1, ha2, ha3⟩ := info_parts infoAtP
  obtain ⟨d0, hd0, hd1, hd2, hd3⟩ := info_parts infoCnP
  obtain ⟨Aa, ca, Ac, cc, rfl, rfl⟩ := hr.shape
  have HT := hid hT
  have HIs := hid (fun (W : World) (kW : Below B w W) (s : Str) (j : Nat) (hj : j < L.length + 3) (z : Bool) (hz : isT (tkL L j) s = z) => ref_is A c n j L s W (hT.on hA kW) hj hn hz)
  have HCo := hid (fun (W : World) (kW : Below B w W) (j : Nat) (hj : j < L.length + 3) (o : Option V) (ho : constT (tkL L j) = o) => ref_const A c n j L W (hT.on hA kW) hj hn ho)
  have HOp := hid (fun (W : World) (kW : Below B w W) (j : Nat) (hj : j < L.length + 3) (o : Int) (ho : opI (opT (tkL L j)) = o) => ref_op A c n j L W (hT.on hA kW) hj hn ho)
  have HTs := hid (fun (W : World) (kW : Below B w W) (j : Nat) (hj : j < L.length) (o : Out (List Trm)) (ho : parenS (tkL L) L.length j = o) => ref_terms A c n j L W (hT.on hA kW) hj hn ho)
  have hL := hT.few
  have hln : L.length ≤ n := by omega
  have hE := hid hT.ended
  unfold itemS at hx
  simp only at hx
  obtain ⟨y, hy⟩ : ∃ y, isT (tkL L i) sNot = y := ⟨_, rfl⟩
  rw [hy] at hx
  have k0 : Below B w ((w.alloc (rulO (.slice Aa r.atoms.length ca) (.slice Ac r.conds.length cc))).alloc (rulO (.slice none 0 0) (.slice none 0 0))) := ((Below.refl _ _).alloc hB _).alloc (by simp; omega) _
  have hI0 := hid (HIs.out _ k0 sNot i (by omega) y hy)
  have HCells := hid (fun (W : World) (kW : Below ((w.alloc (rulO (.slice Aa r.atoms.length ca) (.slice Ac r.conds.length cc))).alloc (rulO (.slice none 0 0) (.slice none 0 0))).heap.size ((w.alloc (rulO (.slice Aa r.atoms.length ca) (.slice Ac r.conds.length cc))).alloc (rulO (.slice none 0 0) (.slice none 0 0))) W) => And.intro
    (show W.heap[w.heap.size]? = some (rulO (.slice Aa r.atoms.length ca) (.slice Ac r.conds.length cc)) from (kW.block _ (by simp; omega)).trans ((Below.heap_alloc _ _ _ (by simp)).trans (heap_alloc_new w _)))
    (show W.heap[w.heap.size + 1]? = some (rulO (.slice none 0 0) (.slice none 0 0)) from (kW.block _ (by simp)).trans (by have := heap_alloc_new (w.alloc (rulO (.slice Aa r.atoms.length ca) (.slice Ac r.conds.length cc))) (rulO (.slice none 0 0) (.slice none 0 0)); rwa [World.size_alloc] at this)))
  have HR := hid (fun (W : World) (kW : Below ((w.alloc (rulO (.slice Aa r.atoms.length ca) (.slice Ac r.conds.length cc))).alloc (rulO (.slice none 0 0) (.slice none 0 0))).heap.size ((w.alloc (rulO (.slice Aa r.atoms.length ca) (.slice Ac r.conds.length cc))).alloc (rulO (.slice none 0 0) (.slice none 0 0))) W) => (hr.below (((Below.refl w.heap.size w).alloc (Nat.le_refl _) _).alloc (by simp) _)).below kW)
  have HNe := hid (fun (g : Nat) (hg : w.heap.size ≤ g) => (show Value.ownBlock (.slice Aa r.atoms.length ca) ≠ some g from fun e => by obtain ⟨us, _, h1, _⟩ := hr.1; have := (h1.lt _ e).2; omega))
  have HNc := hid (fun (g : Nat) (hg : w.heap.size ≤ g) => (show Value.ownBlock (.slice Ac r.conds.length cc) ≠ some g from fun e => by have := (hr.2.lt _ e).2; omega))
  have HX := hid hx
  have HY := hid hy
  clear hT hr hx hn hy
  cases y with
  | false =>
    have hx := HX.out
    simp only [if_neg (show ¬ (false = true) by decide)] at hx
    obtain ⟨j, hj⟩ : ∃ j, j = i := ⟨_, rfl⟩
    subst hj
    have hjl := hi
    obtain ⟨b, o, rfl, h0, h1⟩ := HT.out.cells (show j < L.length + 3 by omega)
    have hbB : b < B := hA ⟨b, o, none⟩ rfl
    have hbw : b < w.heap.size := by omega
    have HTx := hid (fun (W : World) (kW : Below B w W) => And.intro ((kW.cell (p := ⟨b, o + j * 6, none⟩) hbB).trans h0) ((kW.cell (p := ⟨b, o + j * 6 + 1, none⟩) hbB).trans h1))
    go_enter Tryz.func66, Tryz.ntmps66
    go_wp2_with fail
    refine hI0.out.mono ?_
    rintro e w1 ⟨rfl, b1⟩
    have kA1 := b1
    have k1 := k0.trans (b1.mono (by simp; omega))
    have hs1 := k1.size
    obtain ⟨x0, x1⟩ := HTx.out w1 k1
    have hwA := kA1.size
    simp at hwA
    clear b1 hI0 h0 h1
    by_cases hk : (tkL L j).k = 1
    · have hj1 : j + 1 < L.length := hE.out.one hk
      rw [if_neg (by rw [hk]; decide)] at hx
      obtain ⟨z, hz⟩ : ∃ z, isT (tkL L (j + 1)) sOpen = z := ⟨_, rfl⟩
      have hI1 := HIs.out w1 k1 sOpen (j + 1) (by omega) z hz
      rw [show (((j + 1 : Nat)) : Int) = (j : Int) + 1 by omega] at hI1
      have HI1 := hid hI1
      rw [hz] at hx
      have hj2 : z = true → j + 2 < L.length := fun h => hE.out.isT (hz.trans h)
      rw [hk] at x0
      clear hI1 hz hk
      cases z with
      | true =>
        have hj3 := hj2 rfl
        rw [if_pos rfl] at hx
        obtain ⟨q, hq⟩ : ∃ q, parenS (tkL L) L.length (j + 2) = q := ⟨_, rfl⟩
        rw [hq] at hx
        have HX2 := hid hx
        have HTt := hid (fun W kW => HTs.out W kW (j + 2) hj3 q hq)
        clear hx hq hj2 HX
        go_wp2_with fail
        refine HI1.out.mono ?_
        rintro e w2 ⟨rfl, b2⟩
        have kA2 := kA1.trans (b2.mono kA1.size)
        have k2 := k1.trans (b2.mono (by omega))
        have hs2 := k2.size
        have hT2 := HTt.out w2 k2
        rw [show (((j + 2 : Nat)) : Int) = (j : Int) + 2 by omega] at hT2
        have HT2 := hid hT2
        clear b2 HI1 hT2 HTt
        cases q with
        | bad eb =>
          go_wp2_with fail
          refine HT2.out.mono ?_
          rintro e w4 ⟨⟨nx, rfl⟩, b4⟩
          have kA4 := kA2.trans (b4.mono kA2.size)
          have k4 := k2.trans (b4.mono (by omega))
          have hs4 := k4.size
          have hut5 : w4.ownsRow B 146 4 (.slice none 0 0) 0 [] := World.ownsRow_nil _ _ _ _
          obtain ⟨x0', x1'⟩ := HTx.out w4 k4
          have hjn : (j : Int) < (n : Int) := by omega
          have kA5 := kA4
          have k5 := k4
          clear b4 HT2 x0 x1 x0'
          generalize tkL L j = t at *
          go_wp2
          obtain ⟨hp, hq⟩ := HCells.out w4 kA5
          obtain ⟨⟨us, hu0, hu1, hu2⟩, hcn⟩ := HR.out w4 kA5
          have hs5 := k5.size
          have hsA5 := kA5.size
          simp at hsA5
          have hne : Value.ownBlock (.slice Aa r.atoms.length ca) ≠ some w.heap.size := HNe.out w.heap.size (Nat.le_refl _)
          have hne2 : Value.ownBlock (.slice Aa r.atoms.length ca) ≠ some (w.heap.size + 1) := HNe.out _ (by omega)
          have HU := hid (And.intro hu0 hu2)
          have HU1 := hid hu1
          have HCn := hid hcn
          have HUt := hid hut5
          clear hu0 hu2 hcn hut5
          have c0 := box_cell hp 0
          have c1 := box_cell hp 1
          have hlt1 : w.heap.size < w4.heap.size := by omega
          have hlt2 : w.heap.size + 1 < w4.heap.size := by omega
          have hlt3 : b < w4.heap.size := by omega
          go_region_law (refine step_append_new_drew Tryz.underlying39 ha0 ha1 ha2 ha3 rfl (by decide) (by decide) rfl rfl rfl hu1 rfl rfl rfl (by omega) (by omega) ?_; intro v8 w8 hown8 hg8; obtain ⟨g8, cap8, rfl⟩ := own_slice1 hown8; have hp8 := (hg8.block w.heap.size (by show w.heap.size < w4.heap.size; omega) (fun e => hne e.symm)).trans hp; have c80 := box_cell hp8 0; have c81 := box_cell hp8 1; have f80 := box_free hp8 0)
          all_goals
            have hg8q : w4.grownBy w8 (Value.ownBlock (.slice Aa r.atoms.length ca)) := ⟨hg8.os, hg8.tape, hg8.output, hg8.size, hg8.block⟩
            have hq8 := (hg8q.block (w.heap.size + 1) (by omega) (fun e => hne2 e.symm)).trans hq
            have hAt := OwnAts.push (a := ⟨false, t.t, ([] : List Trm)⟩) HU.out.1 HU1.out HU.out.2 HUt.out hg8q rfl hown8
            have hCn := HCn.out.kept hg8q (ren_apart HCn.out HU1.out (by decide))
            have hRl : OwnRl w8 B (.slice (some ⟨g8, 0, none⟩) (r.atoms.length + 1) cap8) (.slice Ac r.conds.length cc) { r with atoms := r.atoms ++ [⟨false, t.t, ([] : List Trm)⟩] } := ⟨hAt, hCn⟩
            have hg9 := ren_set w8 w.heap.size 0 (.slice (some ⟨g8, 0, none⟩) (r.atoms.length + 1) cap8)
            have k8 : Below B w w8 := k5.trans (grown_below hu1 hg8q (by omega))
            have hs8 := k8.size
            have hsg : w4.heap.size ≤ w8.heap.size := hg8q.size
            have HRl := hid (hRl.box hp8 hg9)
            have k9 := k8.trans (grown_below' hg9 hB (by omega))
            have hq9 := (hg9.block (w.heap.size + 1) (by omega) (by simp)).trans hq8
            clear hAt hCn hRl hown8 hg8 hg8q HU HU1 HCn HUt hp hq hq8 hg9
            go_wp2_with (refine wpList_stored2 rfl rfl rfl rfl hq9 infoRlP rfl rfl ?_; intro w9 hz9 hg9')
            refine bodyPost_ret (by simp [results, Tryz.results66, go_sem, cell_res hz9]; rfl) rfl ?_
            have hx2 := HX2.out
            subst hx2
            exact ⟨⟨_, _, _, _, _, _, _, rfl⟩, k9.trans (grown_below' hg9' (by omega) (by have := k9.size; omega))⟩
        | ok ts nx =>
          go_wp2_with fail
          refine HT2.out.mono ?_
          rintro e w4 ⟨ut, rfl, hut, b4⟩
          have kA4 := kA2.trans (b4.mono kA2.size)
          have k4 := k2.trans (b4.mono (by omega))
          have hs4 := k4.size
          obtain ⟨At, ct, rfl⟩ := own_shape hut
          have hut5 := ren_mono hut (show B ≤ w2.heap.size by omega)
          obtain ⟨x0', x1'⟩ := HTx.out w4 k4
          have hjn : (j : Int) < (n : Int) := by omega
          have kA5 := kA4
          have k5 := k4
          clear b4 HT2 x0 x1 x0' hut
          generalize tkL L j = t at *
          go_wp2
          obtain ⟨hp, hq⟩ := HCells.out w4 kA5
          obtain ⟨⟨us, hu0, hu1, hu2⟩, hcn⟩ := HR.out w4 kA5
          have hs5 := k5.size
          have hsA5 := kA5.size
          simp at hsA5
          have hne : Value.ownBlock (.slice Aa r.atoms.length ca) ≠ some w.heap.size := HNe.out w.heap.size (Nat.le_refl _)
          have hne2 : Value.ownBlock (.slice Aa r.atoms.length ca) ≠ some (w.heap.size + 1) := HNe.out _ (by omega)
          have HU := hid (And.intro hu0 hu2)
          have HU1 := hid hu1
          have HCn := hid hcn
          have HUt := hid hut5
          clear hu0 hu2 hcn hut5
          have c0 := box_cell hp 0
          have c1 := box_cell hp 1
          have hlt1 : w.heap.size < w4.heap.size := by omega
          have hlt2 : w.heap.size + 1 < w4.heap.size := by omega
          have hlt3 : b < w4.heap.size := by omega
          go_region_law (refine step_append_new_drew Tryz.underlying39 ha0 ha1 ha2 ha3 rfl (by decide) (by decide) rfl rfl rfl hu1 rfl rfl rfl (by omega) (by omega) ?_; intro v8 w8 hown8 hg8; obtain ⟨g8, cap8, rfl⟩ := own_slice1 hown8; have hp8 := (hg8.block w.heap.size (by show w.heap.size < w4.heap.size; omega) (fun e => hne e.symm)).trans hp; have c80 := box_cell hp8 0; have c81 := box_cell hp8 1; have f80 := box_free hp8 0)
          all_goals
            have hg8q : w4.grownBy w8 (Value.ownBlock (.slice Aa r.atoms.length ca)) := ⟨hg8.os, hg8.tape, hg8.output, hg8.size, hg8.block⟩
            have hq8 := (hg8q.block (w.heap.size + 1) (by omega) (fun e => hne2 e.symm)).trans hq
            have hAt := OwnAts.push (a := ⟨false, t.t, ts⟩) HU.out.1 HU1.out HU.out.2 HUt.out hg8q rfl hown8
            have hCn := HCn.out.kept hg8q (ren_apart HCn.out HU1.out (by decide))
            have hRl : OwnRl w8 B (.slice (some ⟨g8, 0, none⟩) (r.atoms.length + 1) cap8) (.slice Ac r.conds.length cc) { r with atoms := r.atoms ++ [⟨false, t.t, ts⟩] } := ⟨hAt, hCn⟩
            have hg9 := ren_set w8 w.heap.size 0 (.slice (some ⟨g8, 0, none⟩) (r.atoms.length + 1) cap8)
            have k8 : Below B w w8 := k5.trans (grown_below hu1 hg8q (by omega))
            have hs8 := k8.size
            have hsg : w4.heap.size ≤ w8.heap.size := hg8q.size
            have HRl := hid (hRl.box hp8 hg9)
            have k9 := k8.trans (grown_below' hg9 hB (by omega))
            have hq9 := (hg9.block (w.heap.size + 1) (by omega) (by simp)).trans hq8
            clear hAt hCn hRl hown8 hg8 hg8q HU HU1 HCn HUt hp hq hq8 hg9
            go_wp2_with (refine wpList_stored2 rfl rfl rfl rfl hq9 infoRlP rfl rfl ?_; intro w9 hz9 hg9')
            refine bodyPost_ret (by simp [results, Tryz.results66, go_sem, cell_res hz9]; rfl) rfl ?_
            have hx2 := HX2.out
            subst hx2
            exact ⟨⟨_, _, rfl, HRl.out.box hq9 hg9'⟩, k9.trans (grown_below' hg9' (by omega) (by have := k9.size; omega))⟩
      | false =>
        simp only [if_neg (show ¬ (false = true) by decide)] at hx
        obtain ⟨oo, hoo⟩ : ∃ oo, opT (tkL L (j + 1)) = oo := ⟨_, rfl⟩
        rw [hoo] at hx
        have HOp2 := hid (fun W kW => HOp.out W kW (j + 1) (by omega) (opI oo) (by rw [hoo]))
        have HX2 := hid hx
        have hj3 : oo ≠ none → j + 2 < L.length := fun h => by
          cases oo with
          | none => exact absurd rfl h
          | some q => exact hE.out.lt (opT_kind hoo)
        clear hj2 hx HX
        go_wp2_with fail
        refine HI1.out.mono ?_
        rintro e w2 ⟨rfl, b2⟩
        have kA2 := kA1.trans (b2.mono kA1.size)
        have k2 := k1.trans (b2.mono (by omega))
        have hs2 := k2.size
        have hO2 := HOp2.out w2 k2
        rw [show (((j + 1 : Nat)) : Int) = (j : Int) + 1 by omega] at hO2
        have HO2 := hid hO2
        clear b2 HI1 hO2 hoo
        cases oo with
        | none =>
          have hx := HX2.out
          simp only at hx
          subst hx
          have HO3 : Hid (Calls Tryz.prog 97 #[.slice (some ⟨b, o, none⟩) n c, .int .i64 ((j : Int) + 1)] w2 fun e w' => e = .returned (.int .i64 (-1)) ∧ Below w2.heap.size w2 w') := HO2
          clear hj3 HO2 HOp2
          go_wp2_with fail
          refine HO3.out.mono ?_
          rintro e w3 ⟨rfl, b3⟩
          have kA3 := kA2.trans (b3.mono kA2.size)
          have k3 := k2.trans (b3.mono (by omega))
          have hs3 := k3.size
          clear b3 HO3 x0 x1
          obtain ⟨hp, hq⟩ := HCells.out w3 kA3
          have c0 := box_cell hp 0
          have c1 := box_cell hp 1
          clear HR HTs HCo HOp HIs
          go_wp2_with (refine wpList_store_res rfl rfl rfl rfl hq infoRlP rfl rfl ?_; intro w9 hz9 hb9)
          refine bodyPost_ret (by simp [results, Tryz.results66, go_sem, cell_res hz9]; rfl) rfl ?_
          exact ⟨⟨_, _, _, _, _, _, _, rfl⟩, k3.trans (hb9.mono (by omega))⟩
        | some oq =>
          have j3 := hj3 (by simp)
          have HO3 : Hid (Calls Tryz.prog 97 #[.slice (some ⟨b, o, none⟩) n c, .int .i64 ((j : Int) + 1)] w2 fun e w' => e = .returned (.int .i64 (oq : Int)) ∧ Below w2.heap.size w2 w') := HO2
          obtain ⟨oc, hoc⟩ : ∃ oc, constT (tkL L (j + 2)) = oc := ⟨_, rfl⟩
          have hx := HX2.out
          simp only [hoc] at hx
          have HX3 := hid hx
          have HC3 := hid (fun W kW => HCo.out W kW (j + 2) (by omega) oc hoc)
          clear hj3 HO2 hx HX2 hoc
          go_wp2_with fail
          refine HO3.out.mono ?_
          rintro e w3 ⟨rfl, b3⟩
          have kA3 := kA2.trans (b3.mono kA2.size)
          have k3 := k2.trans (b3.mono (by omega))
          have hs3 := k3.size
          have hC3 := HC3.out w3 k3
          unfold RetCo vV at hC3
          rw [show (((j + 2 : Nat)) : Int) = (j : Int) + 2 by omega] at hC3
          have HC4 := hid hC3
          clear b3 HO3 hC3 HC3
          cases oc with
          | none =>
            have hx := HX3.out
            simp only at hx
            subst hx
            have HC5 : Hid (Calls Tryz.prog 98 #[.slice (some ⟨b, o, none⟩) n c, .int .i64 ((j : Int) + 2)] w3 fun e w' => e = .returned (.tuple #[.agg #[.int .i64 0, .int .i64 0, .string ⟨#[]⟩], .bool false]) ∧ Below w3.heap.size w3 w') := HC4
            clear HC4
            go_wp2_with fail
            refine HC5.out.mono ?_
            rintro e w4 ⟨rfl, b4⟩
            have kA4 := (kA3.trans (b4.mono kA3.size)).alloc (Nat.le_trans kA3.size b4.size) (.cells #[.int .i64 0, .int .i64 0, .string ⟨#[]⟩] 56)
            have k4 := (k3.trans (b4.mono (by omega))).alloc (by have := b4.size; omega) (.cells #[.int .i64 0, .int .i64 0, .string ⟨#[]⟩] 56)
            have hs4 := k4.size
            clear b4 HC5 x0 x1
            obtain ⟨hp, hq⟩ := HCells.out _ kA4
            have c0 := box_cell hp 0
            have c1 := box_cell hp 1
            clear HR HTs HCo HOp HIs
            go_wp2_with (refine wpList_store_res rfl rfl rfl rfl hq infoRlP rfl rfl ?_; intro w9 hz9 hb9)
            refine bodyPost_ret (by simp [results, Tryz.results66, go_sem, cell_res hz9]; rfl) rfl ?_
            exact ⟨⟨_, _, _, _, _, _, _, rfl⟩, k4.trans (hb9.mono (by omega))⟩
          | some v =>
            have HC5 : Hid (Calls Tryz.prog 98 #[.slice (some ⟨b, o, none⟩) n c, .int .i64 ((j : Int) + 2)] w3 fun e w' => e = .returned (.tuple #[.agg #[.int .i64 v.k, .int .i64 v.n, .string v.s], .bool true]) ∧ Below w3.heap.size w3 w') := HC4
            have hx := HX3.out
            simp only at hx
            have HX4 := hid hx
            clear HC4 hx HX3
            go_wp2_with fail
            refine HC5.out.mono ?_
            rintro e w4 ⟨rfl, b4⟩
            have kA4 := (kA3.trans (b4.mono kA3.size)).alloc (Nat.le_trans kA3.size b4.size) (.cells #[.int .i64 v.k, .int .i64 v.n, .string v.s] 56)
            have k4 := (k3.trans (b4.mono (by omega))).alloc (by have := b4.size; omega) (.cells #[.int .i64 v.k, .int .i64 v.n, .string v.s] 56)
            have hz4 := heap_alloc_new w4 (.cells #[.int .i64 v.k, .int .i64 v.n, .string v.s] 56)
            have hs34 := b4.size
            clear b4 HC5 x0 x1
            generalize hW4 : w4.alloc (.cells #[.int .i64 v.k, .int .i64 v.n, .string v.s] 56) = W4 at kA4 k4 hz4
            have hsW : W4.heap.size = w4.heap.size + 1 := by rw [← hW4]; simp
            obtain ⟨hp, hq⟩ := HCells.out W4 kA4
            obtain ⟨x0', x1'⟩ := HTx.out W4 k4
            have hRW := HR.out W4 kA4
            have HW4 := hid hW4
            clear HR HTs HCo HIs x0' hW4
            have HRW := hid hRW
            have hcW := hRW.2
            have hne : Value.ownBlock (.slice Ac r.conds.length cc) ≠ some w.heap.size := HNc.out w.heap.size (Nat.le_refl _)
            have hne2 : Value.ownBlock (.slice Ac r.conds.length cc) ≠ some (w.heap.size + 1) := HNc.out _ (by omega)
            have c0 := box_cell hp 0
            have c1 := box_cell hp 1
            have v0 := box_cell hz4 0
            have v1 := box_cell hz4 1
            have v2 := box_cell hz4 2
            have hjn : (j : Int) < (n : Int) := by omega
            have hbw : B ≤ W4.heap.size := by omega
            have HOX := hid (fun (W : World) (h : Below W4.heap.size W4 W) => (show Calls Tryz.prog 97 #[.slice (some ⟨b, o, none⟩) n c, .int .i64 ((j : Int) + 1)] W fun e w' => e = .returned (.int .i64 (oq : Int)) ∧ Below W.heap.size W w' from by
              have := HOp2.out W (k4.trans (h.mono hbw))
              rw [show (((j + 1 : Nat)) : Int) = (j : Int) + 1 by omega] at this
              exact this))
            have hlt1 : w.heap.size < W4.heap.size := by have := kA4.size; simp at this; omega
            have hlt2 : w.heap.size + 1 < W4.heap.size := by have := kA4.size; simp at this; omega
            have hlt3 : b < W4.heap.size := by omega
            have hlt4 : w4.heap.size < W4.heap.size := by omega
            clear hRW HOp2 hsW
            generalize tkL L j = t at *
            have rj1 : IntKind.i64.wrap ((j : Int) + 1) = (j : Int) + 1 := by rw [IntKind.wrap_i64]; omega
            have hj0 : (0 : Int) ≤ (j : Int) := by omega
            have hj9 : j < 2000 := by omega
            go_upto_region 15 with fail
            rw [HW4.out]
            have HP0 := hid hp
            have HQ0 := hid hq
            have HLT3 := hid hlt3
            have HLT4 := hid hlt4
            have HN1 := hid hne
            have HN2 := hid hne2
            have X1 := hid x1'
            have V0 := hid (v0.trans rfl)
            have V1 := hid (v1.trans rfl)
            have V2 := hid (v2.trans rfl)
            have K4 := hid k4
            obtain ⟨XS, hXS⟩ : ∃ xl : List Value, r.conds.flatMap cellsC = xl := ⟨_, rfl⟩
            have hXc : W4.ownsRow B 115 5 (.slice Ac r.conds.length cc) r.conds.length XS := by rw [← hXS]; exact hcW
            have HU := hid hXc
            have HXS := hid hXS
            have HFS := hid (fun (w9 : World) (g8 cap8 : Nat) (hown8 : w9.ownsRow B 115 5 (.slice (some ⟨g8, 0, none⟩) (r.conds.length + 1) cap8) (r.conds.length + 1) (XS ++ [(⟨t.t, oq, v⟩ : Cnd)].flatMap cellsC)) (hat : OwnAts w9 B (.slice Aa r.atoms.length ca) r.atoms) (hp9 : w9.heap[w.heap.size]? = some (rulO (.slice Aa r.atoms.length ca) (.slice Ac r.conds.length cc))) (hq9 : w9.heap[w.heap.size + 1]? = some (rulO (.slice none 0 0) (.slice none 0 0))) (hb9 : Below B W4 w9) =>
              (show ∃ (g9 cap9 : Nat), Hid (OwnRl (w9.setCell ⟨w.heap.size, 1, none⟩ (.slice (some ⟨g8, 0, none⟩) (r.conds.length + 1) cap8)) B (.slice Aa r.atoms.length ca) (.slice (some ⟨g9, 0, none⟩) (r.conds.length + 1) cap9) { r with conds := r.conds ++ [(⟨t.t, oq, v⟩ : Cnd)] }) ∧ Hid ((w9.setCell ⟨w.heap.size, 1, none⟩ (.slice (some ⟨g8, 0, none⟩) (r.conds.length + 1) cap8)).heap[w.heap.size]? = some (rulO (.slice Aa r.atoms.length ca) (.slice (some ⟨g9, 0, none⟩) (r.conds.length + 1) cap9))) ∧ Hid ((w9.setCell ⟨w.heap.size, 1, none⟩ (.slice (some ⟨g8, 0, none⟩) (r.conds.length + 1) cap8)).heap[w.heap.size + 1]? = some (rulO (.slice none 0 0) (.slice none 0 0))) ∧ Hid (Below B w (w9.setCell ⟨w.heap.size, 1, none⟩ (.slice (some ⟨g8, 0, none⟩) (r.conds.length + 1) cap8))) ∧ w.heap.size + 1 + 1 ≤ (w9.setCell ⟨w.heap.size, 1, none⟩ (.slice (some ⟨g8, 0, none⟩) (r.conds.length + 1) cap8)).heap.size from by
                have hCn : w9.ownsRow B 115 5 (.slice (some ⟨g8, 0, none⟩) (r.conds.length + 1) cap8) (r.conds ++ [(⟨t.t, oq, v⟩ : Cnd)]).length ((r.conds ++ [(⟨t.t, oq, v⟩ : Cnd)]).flatMap cellsC) := by
                  rw [List.flatMap_append, List.length_append, HXS.out]
                  exact hown8
                have hRl : OwnRl w9 B (.slice Aa r.atoms.length ca) (.slice (some ⟨g8, 0, none⟩) (r.conds.length + 1) cap8) { r with conds := r.conds ++ [(⟨t.t, oq, v⟩ : Cnd)] } := ⟨hat, hCn⟩
                have hg9 := ren_set w9 w.heap.size 1 (.slice (some ⟨g8, 0, none⟩) (r.conds.length + 1) cap8)
                have hl9 := lt_of_block hq9
                exact ⟨g8, cap8, hid (hRl.box hp9 hg9), hid (box_set5 hp9 1 (.slice (some ⟨g8, 0, none⟩) (r.conds.length + 1) cap8)), hid ((hg9.block (w.heap.size + 1) hl9 (by simp)).trans hq9), hid ((k4.trans hb9).trans (grown_below' hg9 hB (by have := hb9.size; omega))), by have := hg9.size; omega⟩))
            clear k0 kA1 k1 hs1 hwA kA2 k2 hs2 kA3 k3 hs3 kA4 k4 hs34 HCells HNe HNc hA HT HOp HTx HY hE ha0 ha1 ha2 ha3 hj1 j3 hL hln hp hq hz4 hcW hXc hXS x1' v0 v1 v2 c0 c1 hne hne2 hlt1 hlt2 hlt3 hlt4 HW4
            refine wp_region_inv2 (fun d ac w9 => ∃ x83 x84 x85 x86 x87 x88 x89 x90 x91 x92 x93 x94 x95 x96 x97 x98 : Value, ac = { tmps := List.toArray ((Value.slice (some { block := b, off := o }) n c) :: (Value.int IntKind.i64 (j : Int)) :: (Value.agg #[Value.slice Aa r.atoms.length ca, Value.slice Ac r.conds.length cc]) :: undef :: undef :: (Value.pointer (some { block := w.heap.size, off := 0 })) :: (Value.pointer (some { block := w.heap.size + 1, off := 0 })) :: (Value.int IntKind.i64 0) :: (Value.int IntKind.i64 0) :: (Value.bool false) :: undef :: undef :: undef :: (Value.pointer (some { block := w4.heap.size, off := 0 })) :: (Value.bool true) :: (Value.slice (some { block := b, off := o }) n c) :: (Value.int IntKind.i64 (j : Int)) :: (Value.bool false) :: (Value.bool false) :: undef :: undef :: (Value.slice (some { block := b, off := o }) n c) :: (Value.int IntKind.i64 (j : Int)) :: (Value.pointer (some { block := b, off := o + j * 6 })) :: (Value.pointer (some { block := b, off := o + j * 6 })) :: (Value.int IntKind.i64 1) :: (Value.bool false) :: undef :: undef :: undef :: (Value.slice (some { block := b, off := o }) n c) :: (Value.int IntKind.i64 (j : Int)) :: (Value.int IntKind.i64 ((j : Int) + 1)) :: (Value.bool false) :: undef :: undef :: undef :: undef :: undef :: undef :: undef :: undef :: undef :: undef :: undef :: undef :: undef :: undef :: undef :: undef :: undef :: undef :: undef :: undef :: undef :: undef :: undef :: undef :: (Value.bool false) :: (Value.bool false) :: (Value.slice (some { block := b, off := o }) n c) :: (Value.int IntKind.i64 (j : Int)) :: (Value.int IntKind.i64 ((j : Int) + 1)) :: (Value.int IntKind.i64 (oq : Int)) :: (Value.bool (decide ((oq : Int) < 0))) :: (Value.bool (decide ((oq : Int) < 0))) :: undef :: undef :: undef :: undef :: (Value.tuple #[Value.agg #[Value.int IntKind.i64 v.k, Value.int IntKind.i64 v.n, Value.string v.s], Value.bool true]) :: (Value.slice (some { block := b, off := o }) n c) :: (Value.int IntKind.i64 (j : Int)) :: (Value.int IntKind.i64 ((j : Int) + 2)) :: (Value.tuple #[Value.agg #[Value.int IntKind.i64 v.k, Value.int IntKind.i64 v.n, Value.string v.s], Value.bool true]) :: (Value.agg #[Value.int IntKind.i64 v.k, Value.int IntKind.i64 v.n, Value.string v.s]) :: (Value.bool true) :: (Value.bool true) :: (Value.bool false) :: undef :: undef :: undef :: undef :: x83 :: x84 :: x85 :: x86 :: x87 :: x88 :: x89 :: x90 :: x91 :: x92 :: x93 :: x94 :: x95 :: x96 :: x97 :: x98 :: undef :: undef :: undef :: []), defers := [] } ∧ ((d 16 = false ∧ Hid (Below (B) W4 w9) ∧ Hid (d 14 = false → Below W4.heap.size W4 w9) ∧ Hid ((OwnAts w9 B (.slice Aa r.atoms.length ca) r.atoms ∧ w9.heap[w.heap.size]? = some (rulO (.slice Aa r.atoms.length ca) (.slice Ac r.conds.length cc)) ∧ w9.heap[w.heap.size + 1]? = some (rulO (.slice none 0 0) (.slice none 0 0)))) ∧ Hid (d 0 = true → x83 = .pointer (some ⟨w.heap.size, 1, none⟩)) ∧ Hid (d 1 = true → x84 = .slice Ac r.conds.length cc) ∧ Hid (d 2 = true → x85 = .slice (some ⟨b, o, none⟩) n c) ∧ Hid (d 3 = true → x86 = .int .i64 (j : Int)) ∧ Hid (d 4 = true → x87 = .pointer (some ⟨b, o + j * 6, none⟩)) ∧ Hid (d 5 = true → x88 = .pointer (some ⟨b, o + j * 6 + 1, none⟩)) ∧ Hid (d 6 = true → x89 = .string ⟨t.t.toArray⟩) ∧ Hid (d 7 = true → x90 = .slice (some ⟨b, o, none⟩) n c) ∧ Hid (d 8 = true → x91 = .int .i64 (j : Int)) ∧ Hid (d 9 = true → x92 = .int .i64 ((j : Int) + 1)) ∧ Hid (d 10 = true → x93 = .int .i64 (oq : Int)) ∧ Hid (d 11 = true → x94 = .agg #[.int .i64 v.k, .int .i64 v.n, .string v.s]) ∧ Hid (d 12 = true → x95 = .agg #[.string ⟨t.t.toArray⟩, .int .i64 (oq : Int), .int .i64 v.k, .int .i64 v.n, .string v.s]) ∧ Hid (d 13 = true → ∃ g, x96 = .slice (some ⟨g, 0, none⟩) 1 1 ∧ (d 14 = false → w9.heap[g]? = some (.cells #[.string ⟨t.t.toArray⟩, .int .i64 (oq : Int), .int .i64 v.k, .int .i64 v.n, .string v.s] 115 (0, 0)))) ∧ Hid (d 14 = true → w9.ownsRow B 115 5 x97 (r.conds.length + 1) (XS ++ [.string ⟨t.t.toArray⟩, .int .i64 (oq : Int), .int .i64 v.k, .int .i64 v.n, .string v.s])) ∧ Hid (d 15 = true → x98 = .pointer (some ⟨w.heap.size, 1, none⟩))) ∨ (d 16 = true ∧ Hid (∃ (g8 cap8 : Nat), Hid (OwnRl w9 B (.slice Aa r.atoms.length ca) (.slice (some ⟨g8, 0, none⟩) (r.conds.length + 1) cap8) { r with conds := r.conds ++ [(⟨t.t, oq, v⟩ : Cnd)] }) ∧ Hid (w9.heap[w.heap.size]? = some (rulO (.slice Aa r.atoms.length ca) (.slice (some ⟨g8, 0, none⟩) (r.conds.length + 1) cap8))) ∧ Hid (w9.heap[w.heap.size + 1]? = some (rulO (.slice none 0 0) (.slice none 0 0))) ∧ Hid (Below B w w9) ∧ w.heap.size + 1 + 1 ≤ w9.heap.size)))) (by kernel_rfl) (by kernel_rfl) ?h0 ?hst ?fin
            case h0 => exact ⟨_, _, _, _, _, _, _, _, _, _, _, _, _, _, _, _, rfl, .inl ⟨rfl, hid (Below.drew (Below.refl _ _)), hid (fun _ => Below.drew (Below.refl _ _)), hid (⟨HRW.out.1.below (Below.drew (Below.refl _ _)), HP0.out, HQ0.out⟩), hid (fun h => absurd h (by decide)), hid (fun h => absurd h (by decide)), hid (fun h => absurd h (by decide)), hid (fun h => absurd h (by decide)), hid (fun h => absurd h (by decide)), hid (fun h => absurd h (by decide)), hid (fun h => absurd h (by decide)), hid (fun h => absurd h (by decide)), hid (fun h => absurd h (by decide)), hid (fun h => absurd h (by decide)), hid (fun h => absurd h (by decide)), hid (fun h => absurd h (by decide)), hid (fun h => absurd h (by decide)), hid (fun h => absurd h (by decide)), hid (fun h => absurd h (by decide)), hid (fun h => absurd h (by decide))⟩⟩
            case hst =>
              refine ⟨?_, ?_, ?_, ?_, ?_, ?_, ?_, ?_, ?_, ?_, ?_, ?_, ?_, ?_, ?_, ?_, ?_, trivial⟩
              · rintro d ac w9 ⟨x83, x84, x85, x86, x87, x88, x89, x90, x91, x92, x93, x94, x95, x96, x97, x98, rfl, hI⟩ hcl hdk haft
                rcases hI with ⟨hdf, HB, FA, EX, f0, f1, f2, f3, f4, f5, f6, f7, f8, f9, f10, f11, f12, f13, f14, f15⟩ | ⟨hdl, _⟩
                rotate_left
                · exact absurd ((hcl 1 _ rfl (hcl 14 _ rfl (hcl 16 _ rfl hdl ⟨14, .data⟩ (by simp) rfl) ⟨1, .data⟩ (by simp) rfl) ⟨0, .data⟩ (by simp) rfl).symm.trans hdk) (by decide)
                have hap : d 14 = false := by
                  cases hh : d 14 with
                  | false => rfl
                  | true => exact absurd ((hcl 1 _ rfl (hcl 14 _ rfl hh ⟨1, .data⟩ (by simp) rfl) ⟨0, .data⟩ (by simp) rfl).symm.trans hdk) (by decide)
                have HW := hid (FA.out hap)
                have hdz := hid hdf
                clear  hdk haft hcl hdf hap
                go_wp2
                exact rthenK_n ⟨_, _, _, _, _, _, _, _, _, _, _, _, _, _, _, _, rfl, .inl ⟨rkd rfl hdz, hid (HB.out.trans ((Below.refl w9.heap.size w9).mono (Nat.le_trans hbw HB.out.size))), hid (fun h => (FA.out (runupd rfl h)).trans ((Below.refl w9.heap.size w9).mono (FA.out (runupd rfl h)).size)), hid (⟨EX.out.1.below (Below.refl w9.heap.size w9), ((Below.refl w9.heap.size w9).block _ (lt_of_block EX.out.2.1)).trans EX.out.2.1, ((Below.refl w9.heap.size w9).block _ (lt_of_block EX.out.2.2)).trans EX.out.2.2⟩), rnf rfl, rkf rfl f1 (fun h => by first | exact h | exact rfl), rkf rfl f2 (fun h => by first | exact h | exact rfl), rkf rfl f3 (fun h => by first | exact h | exact rfl), rkf rfl f4 (fun h => by first | exact h | exact rfl), rkf rfl f5 (fun h => by first | exact h | exact rfl), rkf rfl f6 (fun h => by first | exact h | exact rfl), rkf rfl f7 (fun h => by first | exact h | exact rfl), rkf rfl f8 (fun h => by first | exact h | exact rfl), rkf rfl f9 (fun h => by first | exact h | exact rfl), rkf rfl f10 (fun h => by first | exact h | exact rfl), rkf rfl f11 (fun h => by first | exact h | exact rfl), rkf rfl f12 (fun h => by first | exact h | exact rfl), rkf rfl f13 (fun h => (by obtain ⟨g, e1, e2⟩ := h; exact ⟨g, e1, fun h15 => res_keep' (e2 (runupd rfl h15)) (Below.refl w9.heap.size w9) (lt_of_block (e2 (runupd rfl h15)))⟩)), rkf rfl f14 (fun h => own_belowS h (Below.refl w9.heap.size w9)), rkf rfl f15 (fun h => by first | exact h | exact rfl)⟩⟩
              · rintro d ac w9 ⟨x83, x84, x85, x86, x87, x88, x89, x90, x91, x92, x93, x94, x95, x96, x97, x98, rfl, hI⟩ hcl hdk haft
                rcases hI with ⟨hdf, HB, FA, EX, f0, f1, f2, f3, f4, f5, f6, f7, f8, f9, f10, f11, f12, f13, f14, f15⟩ | ⟨hdl, _⟩
                rotate_left
                · exact absurd ((hcl 14 _ rfl (hcl 16 _ rfl hdl ⟨14, .data⟩ (by simp) rfl) ⟨1, .data⟩ (by simp) rfl).symm.trans hdk) (by decide)
                have h0 := haft ⟨0, .data⟩ (by simp) rfl
                have hap : d 14 = false := by
                  cases hh : d 14 with
                  | false => rfl
                  | true => exact absurd ((hcl 14 _ rfl hh ⟨1, .data⟩ (by simp) rfl).symm.trans hdk) (by decide)
                have HW := hid (FA.out hap)
                obtain rfl := f0.out h0
                have hdz := hid hdf
                have r0 := rcell (o := 1) (v := .slice Ac r.conds.length cc) EX.out.2.1 rfl
                have rl := lt_of_block EX.out.2.1
                clear h0 hdk haft hcl hdf hap
                go_wp2
                exact rthenK_n ⟨_, _, _, _, _, _, _, _, _, _, _, _, _, _, _, _, rfl, .inl ⟨rkd rfl hdz, hid (HB.out.trans ((Below.refl w9.heap.size w9).mono (Nat.le_trans hbw HB.out.size))), hid (fun h => (FA.out (runupd rfl h)).trans ((Below.refl w9.heap.size w9).mono (FA.out (runupd rfl h)).size)), hid (⟨EX.out.1.below (Below.refl w9.heap.size w9), ((Below.refl w9.heap.size w9).block _ (lt_of_block EX.out.2.1)).trans EX.out.2.1, ((Below.refl w9.heap.size w9).block _ (lt_of_block EX.out.2.2)).trans EX.out.2.2⟩), rkf rfl f0 (fun h => by first | exact h | exact rfl), rnf rfl, rkf rfl f2 (fun h => by first | exact h | exact rfl), rkf rfl f3 (fun h => by first | exact h | exact rfl), rkf rfl f4 (fun h => by first | exact h | exact rfl), rkf rfl f5 (fun h => by first | exact h | exact rfl), rkf rfl f6 (fun h => by first | exact h | exact rfl), rkf rfl f7 (fun h => by first | exact h | exact rfl), rkf rfl f8 (fun h => by first | exact h | exact rfl), rkf rfl f9 (fun h => by first | exact h | exact rfl), rkf rfl f10 (fun h => by first | exact h | exact rfl), rkf rfl f11 (fun h => by first | exact h | exact rfl), rkf rfl f12 (fun h => by first | exact h | exact rfl), rkf rfl f13 (fun h => (by obtain ⟨g, e1, e2⟩ := h; exact ⟨g, e1, fun h15 => res_keep' (e2 (runupd rfl h15)) (Below.refl w9.heap.size w9) (lt_of_block (e2 (runupd rfl h15)))⟩)), rkf rfl f14 (fun h => own_belowS h (Below.refl w9.heap.size w9)), rkf rfl f15 (fun h => by first | exact h | exact rfl)⟩⟩
              · rintro d ac w9 ⟨x83, x84, x85, x86, x87, x88, x89, x90, x91, x92, x93, x94, x95, x96, x97, x98, rfl, hI⟩ hcl hdk haft
                rcases hI with ⟨hdf, HB, FA, EX, f0, f1, f2, f3, f4, f5, f6, f7, f8, f9, f10, f11, f12, f13, f14, f15⟩ | ⟨hdl, _⟩
                rotate_left
                · exact absurd ((hcl 4 _ rfl (hcl 5 _ rfl (hcl 6 _ rfl (hcl 12 _ rfl (hcl 13 _ rfl (hcl 14 _ rfl (hcl 16 _ rfl hdl ⟨14, .data⟩ (by simp) rfl) ⟨13, .data⟩ (by simp) rfl) ⟨12, .data⟩ (by simp) rfl) ⟨6, .data⟩ (by simp) rfl) ⟨5, .data⟩ (by simp) rfl) ⟨4, .data⟩ (by simp) rfl) ⟨2, .data⟩ (by simp) rfl).symm.trans hdk) (by decide)
                have hap : d 14 = false := by
                  cases hh : d 14 with
                  | false => rfl
                  | true => exact absurd ((hcl 4 _ rfl (hcl 5 _ rfl (hcl 6 _ rfl (hcl 12 _ rfl (hcl 13 _ rfl (hcl 14 _ rfl hh ⟨13, .data⟩ (by simp) rfl) ⟨12, .data⟩ (by simp) rfl) ⟨6, .data⟩ (by simp) rfl) ⟨5, .data⟩ (by simp) rfl) ⟨4, .data⟩ (by simp) rfl) ⟨2, .data⟩ (by simp) rfl).symm.trans hdk) (by decide)
                have HW := hid (FA.out hap)
                have hdz := hid hdf
                clear  hdk haft hcl hdf hap
                go_wp2
                exact rthenK_n ⟨_, _, _, _, _, _, _, _, _, _, _, _, _, _, _, _, rfl, .inl ⟨rkd rfl hdz, hid (HB.out.trans ((Below.refl w9.heap.size w9).mono (Nat.le_trans hbw HB.out.size))), hid (fun h => (FA.out (runupd rfl h)).trans ((Below.refl w9.heap.size w9).mono (FA.out (runupd rfl h)).size)), hid (⟨EX.out.1.below (Below.refl w9.heap.size w9), ((Below.refl w9.heap.size w9).block _ (lt_of_block EX.out.2.1)).trans EX.out.2.1, ((Below.refl w9.heap.size w9).block _ (lt_of_block EX.out.2.2)).trans EX.out.2.2⟩), rkf rfl f0 (fun h => by first | exact h | exact rfl), rkf rfl f1 (fun h => by first | exact h | exact rfl), rnf rfl, rkf rfl f3 (fun h => by first | exact h | exact rfl), rkf rfl f4 (fun h => by first | exact h | exact rfl), rkf rfl f5 (fun h => by first | exact h | exact rfl), rkf rfl f6 (fun h => by first | exact h | exact rfl), rkf rfl f7 (fun h => by first | exact h | exact rfl), rkf rfl f8 (fun h => by first | exact h | exact rfl), rkf rfl f9 (fun h => by first | exact h | exact rfl), rkf rfl f10 (fun h => by first | exact h | exact rfl), rkf rfl f11 (fun h => by first | exact h | exact rfl), rkf rfl f12 (fun h => by first | exact h | exact rfl), rkf rfl f13 (fun h => (by obtain ⟨g, e1, e2⟩ := h; exact ⟨g, e1, fun h15 => res_keep' (e2 (runupd rfl h15)) (Below.refl w9.heap.size w9) (lt_of_block (e2 (runupd rfl h15)))⟩)), rkf rfl f14 (fun h => own_belowS h (Below.refl w9.heap.size w9)), rkf rfl f15 (fun h => by first | exact h | exact rfl)⟩⟩
              · rintro d ac w9 ⟨x83, x84, x85, x86, x87, x88, x89, x90, x91, x92, x93, x94, x95, x96, x97, x98, rfl, hI⟩ hcl hdk haft
                rcases hI with ⟨hdf, HB, FA, EX, f0, f1, f2, f3, f4, f5, f6, f7, f8, f9, f10, f11, f12, f13, f14, f15⟩ | ⟨hdl, _⟩
                rotate_left
                · exact absurd ((hcl 4 _ rfl (hcl 5 _ rfl (hcl 6 _ rfl (hcl 12 _ rfl (hcl 13 _ rfl (hcl 14 _ rfl (hcl 16 _ rfl hdl ⟨14, .data⟩ (by simp) rfl) ⟨13, .data⟩ (by simp) rfl) ⟨12, .data⟩ (by simp) rfl) ⟨6, .data⟩ (by simp) rfl) ⟨5, .data⟩ (by simp) rfl) ⟨4, .data⟩ (by simp) rfl) ⟨3, .data⟩ (by simp) rfl).symm.trans hdk) (by decide)
                have hap : d 14 = false := by
                  cases hh : d 14 with
                  | false => rfl
                  | true => exact absurd ((hcl 4 _ rfl (hcl 5 _ rfl (hcl 6 _ rfl (hcl 12 _ rfl (hcl 13 _ rfl (hcl 14 _ rfl hh ⟨13, .data⟩ (by simp) rfl) ⟨12, .data⟩ (by simp) rfl) ⟨6, .data⟩ (by simp) rfl) ⟨5, .data⟩ (by simp) rfl) ⟨4, .data⟩ (by simp) rfl) ⟨3, .data⟩ (by simp) rfl).symm.trans hdk) (by decide)
                have HW := hid (FA.out hap)
                have hdz := hid hdf
                clear  hdk haft hcl hdf hap
                go_wp2
                exact rthenK_n ⟨_, _, _, _, _, _, _, _, _, _, _, _, _, _, _, _, rfl, .inl ⟨rkd rfl hdz, hid (HB.out.trans ((Below.refl w9.heap.size w9).mono (Nat.le_trans hbw HB.out.size))), hid (fun h => (FA.out (runupd rfl h)).trans ((Below.refl w9.heap.size w9).mono (FA.out (runupd rfl h)).size)), hid (⟨EX.out.1.below (Below.refl w9.heap.size w9), ((Below.refl w9.heap.size w9).block _ (lt_of_block EX.out.2.1)).trans EX.out.2.1, ((Below.refl w9.heap.size w9).block _ (lt_of_block EX.out.2.2)).trans EX.out.2.2⟩), rkf rfl f0 (fun h => by first | exact h | exact rfl), rkf rfl f1 (fun h => by first | exact h | exact rfl), rkf rfl f2 (fun h => by first | exact h | exact rfl), rnf rfl, rkf rfl f4 (fun h => by first | exact h | exact rfl), rkf rfl f5 (fun h => by first | exact h | exact rfl), rkf rfl f6 (fun h => by first | exact h | exact rfl), rkf rfl f7 (fun h => by first | exact h | exact rfl), rkf rfl f8 (fun h => by first | exact h | exact rfl), rkf rfl f9 (fun h => by first | exact h | exact rfl), rkf rfl f10 (fun h => by first | exact h | exact rfl), rkf rfl f11 (fun h => by first | exact h | exact rfl), rkf rfl f12 (fun h => by first | exact h | exact rfl), rkf rfl f13 (fun h => (by obtain ⟨g, e1, e2⟩ := h; exact ⟨g, e1, fun h15 => res_keep' (e2 (runupd rfl h15)) (Below.refl w9.heap.size w9) (lt_of_block (e2 (runupd rfl h15)))⟩)), rkf rfl f14 (fun h => own_belowS h (Below.refl w9.heap.size w9)), rkf rfl f15 (fun h => by first | exact h | exact rfl)⟩⟩
              · rintro d ac w9 ⟨x83, x84, x85, x86, x87, x88, x89, x90, x91, x92, x93, x94, x95, x96, x97, x98, rfl, hI⟩ hcl hdk haft
                rcases hI with ⟨hdf, HB, FA, EX, f0, f1, f2, f3, f4, f5, f6, f7, f8, f9, f10, f11, f12, f13, f14, f15⟩ | ⟨hdl, _⟩
                rotate_left
                · exact absurd ((hcl 5 _ rfl (hcl 6 _ rfl (hcl 12 _ rfl (hcl 13 _ rfl (hcl 14 _ rfl (hcl 16 _ rfl hdl ⟨14, .data⟩ (by simp) rfl) ⟨13, .data⟩ (by simp) rfl) ⟨12, .data⟩ (by simp) rfl) ⟨6, .data⟩ (by simp) rfl) ⟨5, .data⟩ (by simp) rfl) ⟨4, .data⟩ (by simp) rfl).symm.trans hdk) (by decide)
                have h2 := haft ⟨2, .data⟩ (by simp) rfl
                have h3 := haft ⟨3, .data⟩ (by simp) rfl
                have hap : d 14 = false := by
                  cases hh : d 14 with
                  | false => rfl
                  | true => exact absurd ((hcl 5 _ rfl (hcl 6 _ rfl (hcl 12 _ rfl (hcl 13 _ rfl (hcl 14 _ rfl hh ⟨13, .data⟩ (by simp) rfl) ⟨12, .data⟩ (by simp) rfl) ⟨6, .data⟩ (by simp) rfl) ⟨5, .data⟩ (by simp) rfl) ⟨4, .data⟩ (by simp) rfl).symm.trans hdk) (by decide)
                have HW := hid (FA.out hap)
                obtain rfl := f2.out h2
                obtain rfl := f3.out h3
                have hdz := hid hdf
                clear h2 h3 hdk haft hcl hdf hap
                go_wp2
                exact rthenK_n ⟨_, _, _, _, _, _, _, _, _, _, _, _, _, _, _, _, rfl, .inl ⟨rkd rfl hdz, hid (HB.out.trans ((Below.refl w9.heap.size w9).mono (Nat.le_trans hbw HB.out.size))), hid (fun h => (FA.out (runupd rfl h)).trans ((Below.refl w9.heap.size w9).mono (FA.out (runupd rfl h)).size)), hid (⟨EX.out.1.below (Below.refl w9.heap.size w9), ((Below.refl w9.heap.size w9).block _ (lt_of_block EX.out.2.1)).trans EX.out.2.1, ((Below.refl w9.heap.size w9).block _ (lt_of_block EX.out.2.2)).trans EX.out.2.2⟩), rkf rfl f0 (fun h => by first | exact h | exact rfl), rkf rfl f1 (fun h => by first | exact h | exact rfl), rkf rfl f2 (fun h => by first | exact h | exact rfl), rkf rfl f3 (fun h => by first | exact h | exact rfl), rnf rfl, rkf rfl f5 (fun h => by first | exact h | exact rfl), rkf rfl f6 (fun h => by first | exact h | exact rfl), rkf rfl f7 (fun h => by first | exact h | exact rfl), rkf rfl f8 (fun h => by first | exact h | exact rfl), rkf rfl f9 (fun h => by first | exact h | exact rfl), rkf rfl f10 (fun h => by first | exact h | exact rfl), rkf rfl f11 (fun h => by first | exact h | exact rfl), rkf rfl f12 (fun h => by first | exact h | exact rfl), rkf rfl f13 (fun h => (by obtain ⟨g, e1, e2⟩ := h; exact ⟨g, e1, fun h15 => res_keep' (e2 (runupd rfl h15)) (Below.refl w9.heap.size w9) (lt_of_block (e2 (runupd rfl h15)))⟩)), rkf rfl f14 (fun h => own_belowS h (Below.refl w9.heap.size w9)), rkf rfl f15 (fun h => by first | exact h | exact rfl)⟩⟩
              · rintro d ac w9 ⟨x83, x84, x85, x86, x87, x88, x89, x90, x91, x92, x93, x94, x95, x96, x97, x98, rfl, hI⟩ hcl hdk haft
                rcases hI with ⟨hdf, HB, FA, EX, f0, f1, f2, f3, f4, f5, f6, f7, f8, f9, f10, f11, f12, f13, f14, f15⟩ | ⟨hdl, _⟩
                rotate_left
                · exact absurd ((hcl 6 _ rfl (hcl 12 _ rfl (hcl 13 _ rfl (hcl 14 _ rfl (hcl 16 _ rfl hdl ⟨14, .data⟩ (by simp) rfl) ⟨13, .data⟩ (by simp) rfl) ⟨12, .data⟩ (by simp) rfl) ⟨6, .data⟩ (by simp) rfl) ⟨5, .data⟩ (by simp) rfl).symm.trans hdk) (by decide)
                have h4 := haft ⟨4, .data⟩ (by simp) rfl
                have hap : d 14 = false := by
                  cases hh : d 14 with
                  | false => rfl
                  | true => exact absurd ((hcl 6 _ rfl (hcl 12 _ rfl (hcl 13 _ rfl (hcl 14 _ rfl hh ⟨13, .data⟩ (by simp) rfl) ⟨12, .data⟩ (by simp) rfl) ⟨6, .data⟩ (by simp) rfl) ⟨5, .data⟩ (by simp) rfl).symm.trans hdk) (by decide)
                have HW := hid (FA.out hap)
                obtain rfl := f4.out h4
                have hdz := hid hdf
                clear h4 hdk haft hcl hdf hap
                go_wp2
                exact rthenK_n ⟨_, _, _, _, _, _, _, _, _, _, _, _, _, _, _, _, rfl, .inl ⟨rkd rfl hdz, hid (HB.out.trans ((Below.refl w9.heap.size w9).mono (Nat.le_trans hbw HB.out.size))), hid (fun h => (FA.out (runupd rfl h)).trans ((Below.refl w9.heap.size w9).mono (FA.out (runupd rfl h)).size)), hid (⟨EX.out.1.below (Below.refl w9.heap.size w9), ((Below.refl w9.heap.size w9).block _ (lt_of_block EX.out.2.1)).trans EX.out.2.1, ((Below.refl w9.heap.size w9).block _ (lt_of_block EX.out.2.2)).trans EX.out.2.2⟩), rkf rfl f0 (fun h => by first | exact h | exact rfl), rkf rfl f1 (fun h => by first | exact h | exact rfl), rkf rfl f2 (fun h => by first | exact h | exact rfl), rkf rfl f3 (fun h => by first | exact h | exact rfl), rkf rfl f4 (fun h => by first | exact h | exact rfl), rnf rfl, rkf rfl f6 (fun h => by first | exact h | exact rfl), rkf rfl f7 (fun h => by first | exact h | exact rfl), rkf rfl f8 (fun h => by first | exact h | exact rfl), rkf rfl f9 (fun h => by first | exact h | exact rfl), rkf rfl f10 (fun h => by first | exact h | exact rfl), rkf rfl f11 (fun h => by first | exact h | exact rfl), rkf rfl f12 (fun h => by first | exact h | exact rfl), rkf rfl f13 (fun h => (by obtain ⟨g, e1, e2⟩ := h; exact ⟨g, e1, fun h15 => res_keep' (e2 (runupd rfl h15)) (Below.refl w9.heap.size w9) (lt_of_block (e2 (runupd rfl h15)))⟩)), rkf rfl f14 (fun h => own_belowS h (Below.refl w9.heap.size w9)), rkf rfl f15 (fun h => by first | exact h | exact rfl)⟩⟩
              · rintro d ac w9 ⟨x83, x84, x85, x86, x87, x88, x89, x90, x91, x92, x93, x94, x95, x96, x97, x98, rfl, hI⟩ hcl hdk haft
                rcases hI with ⟨hdf, HB, FA, EX, f0, f1, f2, f3, f4, f5, f6, f7, f8, f9, f10, f11, f12, f13, f14, f15⟩ | ⟨hdl, _⟩
                rotate_left
                · exact absurd ((hcl 12 _ rfl (hcl 13 _ rfl (hcl 14 _ rfl (hcl 16 _ rfl hdl ⟨14, .data⟩ (by simp) rfl) ⟨13, .data⟩ (by simp) rfl) ⟨12, .data⟩ (by simp) rfl) ⟨6, .data⟩ (by simp) rfl).symm.trans hdk) (by decide)
                have h5 := haft ⟨5, .data⟩ (by simp) rfl
                have hap : d 14 = false := by
                  cases hh : d 14 with
                  | false => rfl
                  | true => exact absurd ((hcl 12 _ rfl (hcl 13 _ rfl (hcl 14 _ rfl hh ⟨13, .data⟩ (by simp) rfl) ⟨12, .data⟩ (by simp) rfl) ⟨6, .data⟩ (by simp) rfl).symm.trans hdk) (by decide)
                have HW := hid (FA.out hap)
                obtain rfl := f5.out h5
                have hdz := hid hdf
                have xt9 := cell_keep HW.out X1.out
                have xl9 : b < w9.heap.size := Nat.lt_of_lt_of_le HLT3.out HW.out.size
                clear h5 hdk haft hcl hdf hap
                go_wp2
                exact rthenK_n ⟨_, _, _, _, _, _, _, _, _, _, _, _, _, _, _, _, rfl, .inl ⟨rkd rfl hdz, hid (HB.out.trans ((Below.refl w9.heap.size w9).mono (Nat.le_trans hbw HB.out.size))), hid (fun h => (FA.out (runupd rfl h)).trans ((Below.refl w9.heap.size w9).mono (FA.out (runupd rfl h)).size)), hid (⟨EX.out.1.below (Below.refl w9.heap.size w9), ((Below.refl w9.heap.size w9).block _ (lt_of_block EX.out.2.1)).trans EX.out.2.1, ((Below.refl w9.heap.size w9).block _ (lt_of_block EX.out.2.2)).trans EX.out.2.2⟩), rkf rfl f0 (fun h => by first | exact h | exact rfl), rkf rfl f1 (fun h => by first | exact h | exact rfl), rkf rfl f2 (fun h => by first | exact h | exact rfl), rkf rfl f3 (fun h => by first | exact h | exact rfl), rkf rfl f4 (fun h => by first | exact h | exact rfl), rkf rfl f5 (fun h => by first | exact h | exact rfl), rnf rfl, rkf rfl f7 (fun h => by first | exact h | exact rfl), rkf rfl f8 (fun h => by first | exact h | exact rfl), rkf rfl f9 (fun h => by first | exact h | exact rfl), rkf rfl f10 (fun h => by first | exact h | exact rfl), rkf rfl f11 (fun h => by first | exact h | exact rfl), rkf rfl f12 (fun h => by first | exact h | exact rfl), rkf rfl f13 (fun h => (by obtain ⟨g, e1, e2⟩ := h; exact ⟨g, e1, fun h15 => res_keep' (e2 (runupd rfl h15)) (Below.refl w9.heap.size w9) (lt_of_block (e2 (runupd rfl h15)))⟩)), rkf rfl f14 (fun h => own_belowS h (Below.refl w9.heap.size w9)), rkf rfl f15 (fun h => by first | exact h | exact rfl)⟩⟩
              · rintro d ac w9 ⟨x83, x84, x85, x86, x87, x88, x89, x90, x91, x92, x93, x94, x95, x96, x97, x98, rfl, hI⟩ hcl hdk haft
                rcases hI with ⟨hdf, HB, FA, EX, f0, f1, f2, f3, f4, f5, f6, f7, f8, f9, f10, f11, f12, f13, f14, f15⟩ | ⟨hdl, _⟩
                rotate_left
                · exact absurd ((hcl 10 _ rfl (hcl 12 _ rfl (hcl 13 _ rfl (hcl 14 _ rfl (hcl 16 _ rfl hdl ⟨14, .data⟩ (by simp) rfl) ⟨13, .data⟩ (by simp) rfl) ⟨12, .data⟩ (by simp) rfl) ⟨10, .data⟩ (by simp) rfl) ⟨7, .data⟩ (by simp) rfl).symm.trans hdk) (by decide)
                have hap : d 14 = false := by
                  cases hh : d 14 with
                  | false => rfl
                  | true => exact absurd ((hcl 10 _ rfl (hcl 12 _ rfl (hcl 13 _ rfl (hcl 14 _ rfl hh ⟨13, .data⟩ (by simp) rfl) ⟨12, .data⟩ (by simp) rfl) ⟨10, .data⟩ (by simp) rfl) ⟨7, .data⟩ (by simp) rfl).symm.trans hdk) (by decide)
                have HW := hid (FA.out hap)
                have hdz := hid hdf
                clear  hdk haft hcl hdf hap
                go_wp2
                exact rthenK_n ⟨_, _, _, _, _, _, _, _, _, _, _, _, _, _, _, _, rfl, .inl ⟨rkd rfl hdz, hid (HB.out.trans ((Below.refl w9.heap.size w9).mono (Nat.le_trans hbw HB.out.size))), hid (fun h => (FA.out (runupd rfl h)).trans ((Below.refl w9.heap.size w9).mono (FA.out (runupd rfl h)).size)), hid (⟨EX.out.1.below (Below.refl w9.heap.size w9), ((Below.refl w9.heap.size w9).block _ (lt_of_block EX.out.2.1)).trans EX.out.2.1, ((Below.refl w9.heap.size w9).block _ (lt_of_block EX.out.2.2)).trans EX.out.2.2⟩), rkf rfl f0 (fun h => by first | exact h | exact rfl), rkf rfl f1 (fun h => by first | exact h | exact rfl), rkf rfl f2 (fun h => by first | exact h | exact rfl), rkf rfl f3 (fun h => by first | exact h | exact rfl), rkf rfl f4 (fun h => by first | exact h | exact rfl), rkf rfl f5 (fun h => by first | exact h | exact rfl), rkf rfl f6 (fun h => by first | exact h | exact rfl), rnf rfl, rkf rfl f8 (fun h => by first | exact h | exact rfl), rkf rfl f9 (fun h => by first | exact h | exact rfl), rkf rfl f10 (fun h => by first | exact h | exact rfl), rkf rfl f11 (fun h => by first | exact h | exact rfl), rkf rfl f12 (fun h => by first | exact h | exact rfl), rkf rfl f13 (fun h => (by obtain ⟨g, e1, e2⟩ := h; exact ⟨g, e1, fun h15 => res_keep' (e2 (runupd rfl h15)) (Below.refl w9.heap.size w9) (lt_of_block (e2 (runupd rfl h15)))⟩)), rkf rfl f14 (fun h => own_belowS h (Below.refl w9.heap.size w9)), rkf rfl f15 (fun h => by first | exact h | exact rfl)⟩⟩
              · rintro d ac w9 ⟨x83, x84, x85, x86, x87, x88, x89, x90, x91, x92, x93, x94, x95, x96, x97, x98, rfl, hI⟩ hcl hdk haft
                rcases hI with ⟨hdf, HB, FA, EX, f0, f1, f2, f3, f4, f5, f6, f7, f8, f9, f10, f11, f12, f13, f14, f15⟩ | ⟨hdl, _⟩
                rotate_left
                · exact absurd ((hcl 9 _ rfl (hcl 10 _ rfl (hcl 12 _ rfl (hcl 13 _ rfl (hcl 14 _ rfl (hcl 16 _ rfl hdl ⟨14, .data⟩ (by simp) rfl) ⟨13, .data⟩ (by simp) rfl) ⟨12, .data⟩ (by simp) rfl) ⟨10, .data⟩ (by simp) rfl) ⟨9, .data⟩ (by simp) rfl) ⟨8, .data⟩ (by simp) rfl).symm.trans hdk) (by decide)
                have hap : d 14 = false := by
                  cases hh : d 14 with
                  | false => rfl
                  | true => exact absurd ((hcl 9 _ rfl (hcl 10 _ rfl (hcl 12 _ rfl (hcl 13 _ rfl (hcl 14 _ rfl hh ⟨13, .data⟩ (by simp) rfl) ⟨12, .data⟩ (by simp) rfl) ⟨10, .data⟩ (by simp) rfl) ⟨9, .data⟩ (by simp) rfl) ⟨8, .data⟩ (by simp) rfl).symm.trans hdk) (by decide)
                have HW := hid (FA.out hap)
                have hdz := hid hdf
                clear  hdk haft hcl hdf hap
                go_wp2
                exact rthenK_n ⟨_, _, _, _, _, _, _, _, _, _, _, _, _, _, _, _, rfl, .inl ⟨rkd rfl hdz, hid (HB.out.trans ((Below.refl w9.heap.size w9).mono (Nat.le_trans hbw HB.out.size))), hid (fun h => (FA.out (runupd rfl h)).trans ((Below.refl w9.heap.size w9).mono (FA.out (runupd rfl h)).size)), hid (⟨EX.out.1.below (Below.refl w9.heap.size w9), ((Below.refl w9.heap.size w9).block _ (lt_of_block EX.out.2.1)).trans EX.out.2.1, ((Below.refl w9.heap.size w9).block _ (lt_of_block EX.out.2.2)).trans EX.out.2.2⟩), rkf rfl f0 (fun h => by first | exact h | exact rfl), rkf rfl f1 (fun h => by first | exact h | exact rfl), rkf rfl f2 (fun h => by first | exact h | exact rfl), rkf rfl f3 (fun h => by first | exact h | exact rfl), rkf rfl f4 (fun h => by first | exact h | exact rfl), rkf rfl f5 (fun h => by first | exact h | exact rfl), rkf rfl f6 (fun h => by first | exact h | exact rfl), rkf rfl f7 (fun h => by first | exact h | exact rfl), rnf rfl, rkf rfl f9 (fun h => by first | exact h | exact rfl), rkf rfl f10 (fun h => by first | exact h | exact rfl), rkf rfl f11 (fun h => by first | exact h | exact rfl), rkf rfl f12 (fun h => by first | exact h | exact rfl), rkf rfl f13 (fun h => (by obtain ⟨g, e1, e2⟩ := h; exact ⟨g, e1, fun h15 => res_keep' (e2 (runupd rfl h15)) (Below.refl w9.heap.size w9) (lt_of_block (e2 (runupd rfl h15)))⟩)), rkf rfl f14 (fun h => own_belowS h (Below.refl w9.heap.size w9)), rkf rfl f15 (fun h => by first | exact h | exact rfl)⟩⟩
              · rintro d ac w9 ⟨x83, x84, x85, x86, x87, x88, x89, x90, x91, x92, x93, x94, x95, x96, x97, x98, rfl, hI⟩ hcl hdk haft
                rcases hI with ⟨hdf, HB, FA, EX, f0, f1, f2, f3, f4, f5, f6, f7, f8, f9, f10, f11, f12, f13, f14, f15⟩ | ⟨hdl, _⟩
                rotate_left
                · exact absurd ((hcl 10 _ rfl (hcl 12 _ rfl (hcl 13 _ rfl (hcl 14 _ rfl (hcl 16 _ rfl hdl ⟨14, .data⟩ (by simp) rfl) ⟨13, .data⟩ (by simp) rfl) ⟨12, .data⟩ (by simp) rfl) ⟨10, .data⟩ (by simp) rfl) ⟨9, .data⟩ (by simp) rfl).symm.trans hdk) (by decide)
                have h8 := haft ⟨8, .data⟩ (by simp) rfl
                have hap : d 14 = false := by
                  cases hh : d 14 with
                  | false => rfl
                  | true => exact absurd ((hcl 10 _ rfl (hcl 12 _ rfl (hcl 13 _ rfl (hcl 14 _ rfl hh ⟨13, .data⟩ (by simp) rfl) ⟨12, .data⟩ (by simp) rfl) ⟨10, .data⟩ (by simp) rfl) ⟨9, .data⟩ (by simp) rfl).symm.trans hdk) (by decide)
                have HW := hid (FA.out hap)
                obtain rfl := f8.out h8
                have hdz := hid hdf
                clear h8 hdk haft hcl hdf hap
                go_wp2
                exact rthenK_n ⟨_, _, _, _, _, _, _, _, _, _, _, _, _, _, _, _, rfl, .inl ⟨rkd rfl hdz, hid (HB.out.trans ((Below.refl w9.heap.size w9).mono (Nat.le_trans hbw HB.out.size))), hid (fun h => (FA.out (runupd rfl h)).trans ((Below.refl w9.heap.size w9).mono (FA.out (runupd rfl h)).size)), hid (⟨EX.out.1.below (Below.refl w9.heap.size w9), ((Below.refl w9.heap.size w9).block _ (lt_of_block EX.out.2.1)).trans EX.out.2.1, ((Below.refl w9.heap.size w9).block _ (lt_of_block EX.out.2.2)).trans EX.out.2.2⟩), rkf rfl f0 (fun h => by first | exact h | exact rfl), rkf rfl f1 (fun h => by first | exact h | exact rfl), rkf rfl f2 (fun h => by first | exact h | exact rfl), rkf rfl f3 (fun h => by first | exact h | exact rfl), rkf rfl f4 (fun h => by first | exact h | exact rfl), rkf rfl f5 (fun h => by first | exact h | exact rfl), rkf rfl f6 (fun h => by first | exact h | exact rfl), rkf rfl f7 (fun h => by first | exact h | exact rfl), rkf rfl f8 (fun h => by first | exact h | exact rfl), rnf rfl, rkf rfl f10 (fun h => by first | exact h | exact rfl), rkf rfl f11 (fun h => by first | exact h | exact rfl), rkf rfl f12 (fun h => by first | exact h | exact rfl), rkf rfl f13 (fun h => (by obtain ⟨g, e1, e2⟩ := h; exact ⟨g, e1, fun h15 => res_keep' (e2 (runupd rfl h15)) (Below.refl w9.heap.size w9) (lt_of_block (e2 (runupd rfl h15)))⟩)), rkf rfl f14 (fun h => own_belowS h (Below.refl w9.heap.size w9)), rkf rfl f15 (fun h => by first | exact h | exact rfl)⟩⟩
              · rintro d ac w9 ⟨x83, x84, x85, x86, x87, x88, x89, x90, x91, x92, x93, x94, x95, x96, x97, x98, rfl, hI⟩ hcl hdk haft
                rcases hI with ⟨hdf, HB, FA, EX, f0, f1, f2, f3, f4, f5, f6, f7, f8, f9, f10, f11, f12, f13, f14, f15⟩ | ⟨hdl, _⟩
                rotate_left
                · exact absurd ((hcl 12 _ rfl (hcl 13 _ rfl (hcl 14 _ rfl (hcl 16 _ rfl hdl ⟨14, .data⟩ (by simp) rfl) ⟨13, .data⟩ (by simp) rfl) ⟨12, .data⟩ (by simp) rfl) ⟨10, .data⟩ (by simp) rfl).symm.trans hdk) (by decide)
                have h7 := haft ⟨7, .data⟩ (by simp) rfl
                have h9 := haft ⟨9, .data⟩ (by simp) rfl
                have hap : d 14 = false := by
                  cases hh : d 14 with
                  | false => rfl
                  | true => exact absurd ((hcl 12 _ rfl (hcl 13 _ rfl (hcl 14 _ rfl hh ⟨13, .data⟩ (by simp) rfl) ⟨12, .data⟩ (by simp) rfl) ⟨10, .data⟩ (by simp) rfl).symm.trans hdk) (by decide)
                have HW := hid (FA.out hap)
                obtain rfl := f7.out h7
                obtain rfl := f9.out h9
                have hdz := hid hdf
                clear h7 h9 hdk haft hcl hdf hap
                go_wp2_with fail
                refine (HOX.out w9 HW.out).mono ?_
                rintro e w8 ⟨rfl, b8⟩
                go_wp2
                exact rthenK_n ⟨_, _, _, _, _, _, _, _, _, _, _, _, _, _, _, _, rfl, .inl ⟨rkd rfl hdz, hid (HB.out.trans (b8.mono (Nat.le_trans hbw HB.out.size))), hid (fun h => (FA.out (runupd rfl h)).trans (b8.mono (FA.out (runupd rfl h)).size)), hid (⟨EX.out.1.below b8, (b8.block _ (lt_of_block EX.out.2.1)).trans EX.out.2.1, (b8.block _ (lt_of_block EX.out.2.2)).trans EX.out.2.2⟩), rkf rfl f0 (fun h => by first | exact h | exact rfl), rkf rfl f1 (fun h => by first | exact h | exact rfl), rkf rfl f2 (fun h => by first | exact h | exact rfl), rkf rfl f3 (fun h => by first | exact h | exact rfl), rkf rfl f4 (fun h => by first | exact h | exact rfl), rkf rfl f5 (fun h => by first | exact h | exact rfl), rkf rfl f6 (fun h => by first | exact h | exact rfl), rkf rfl f7 (fun h => by first | exact h | exact rfl), rkf rfl f8 (fun h => by first | exact h | exact rfl), rkf rfl f9 (fun h => by first | exact h | exact rfl), rnf rfl, rkf rfl f11 (fun h => by first | exact h | exact rfl), rkf rfl f12 (fun h => by first | exact h | exact rfl), rkf rfl f13 (fun h => (by obtain ⟨g, e1, e2⟩ := h; exact ⟨g, e1, fun h15 => res_keep' (e2 (runupd rfl h15)) b8 (lt_of_block (e2 (runupd rfl h15)))⟩)), rkf rfl f14 (fun h => own_belowS h b8), rkf rfl f15 (fun h => by first | exact h | exact rfl)⟩⟩
              · rintro d ac w9 ⟨x83, x84, x85, x86, x87, x88, x89, x90, x91, x92, x93, x94, x95, x96, x97, x98, rfl, hI⟩ hcl hdk haft
                rcases hI with ⟨hdf, HB, FA, EX, f0, f1, f2, f3, f4, f5, f6, f7, f8, f9, f10, f11, f12, f13, f14, f15⟩ | ⟨hdl, _⟩
                rotate_left
                · exact absurd ((hcl 12 _ rfl (hcl 13 _ rfl (hcl 14 _ rfl (hcl 16 _ rfl hdl ⟨14, .data⟩ (by simp) rfl) ⟨13, .data⟩ (by simp) rfl) ⟨12, .data⟩ (by simp) rfl) ⟨11, .data⟩ (by simp) rfl).symm.trans hdk) (by decide)
                have hap : d 14 = false := by
                  cases hh : d 14 with
                  | false => rfl
                  | true => exact absurd ((hcl 12 _ rfl (hcl 13 _ rfl (hcl 14 _ rfl hh ⟨13, .data⟩ (by simp) rfl) ⟨12, .data⟩ (by simp) rfl) ⟨11, .data⟩ (by simp) rfl).symm.trans hdk) (by decide)
                have HW := hid (FA.out hap)
                have hdz := hid hdf
                have y09 := cell_keep HW.out V0.out
                have y19 := cell_keep HW.out V1.out
                have y29 := cell_keep HW.out V2.out
                have yl9 : w4.heap.size < w9.heap.size := Nat.lt_of_lt_of_le HLT4.out HW.out.size
                clear  hdk haft hcl hdf hap
                go_wp2
                exact rthenK_n ⟨_, _, _, _, _, _, _, _, _, _, _, _, _, _, _, _, rfl, .inl ⟨rkd rfl hdz, hid (HB.out.trans ((Below.refl w9.heap.size w9).mono (Nat.le_trans hbw HB.out.size))), hid (fun h => (FA.out (runupd rfl h)).trans ((Below.refl w9.heap.size w9).mono (FA.out (runupd rfl h)).size)), hid (⟨EX.out.1.below (Below.refl w9.heap.size w9), ((Below.refl w9.heap.size w9).block _ (lt_of_block EX.out.2.1)).trans EX.out.2.1, ((Below.refl w9.heap.size w9).block _ (lt_of_block EX.out.2.2)).trans EX.out.2.2⟩), rkf rfl f0 (fun h => by first | exact h | exact rfl), rkf rfl f1 (fun h => by first | exact h | exact rfl), rkf rfl f2 (fun h => by first | exact h | exact rfl), rkf rfl f3 (fun h => by first | exact h | exact rfl), rkf rfl f4 (fun h => by first | exact h | exact rfl), rkf rfl f5 (fun h => by first | exact h | exact rfl), rkf rfl f6 (fun h => by first | exact h | exact rfl), rkf rfl f7 (fun h => by first | exact h | exact rfl), rkf rfl f8 (fun h => by first | exact h | exact rfl), rkf rfl f9 (fun h => by first | exact h | exact rfl), rkf rfl f10 (fun h => by first | exact h | exact rfl), rnf rfl, rkf rfl f12 (fun h => by first | exact h | exact rfl), rkf rfl f13 (fun h => (by obtain ⟨g, e1, e2⟩ := h; exact ⟨g, e1, fun h15 => res_keep' (e2 (runupd rfl h15)) (Below.refl w9.heap.size w9) (lt_of_block (e2 (runupd rfl h15)))⟩)), rkf rfl f14 (fun h => own_belowS h (Below.refl w9.heap.size w9)), rkf rfl f15 (fun h => by first | exact h | exact rfl)⟩⟩
              · rintro d ac w9 ⟨x83, x84, x85, x86, x87, x88, x89, x90, x91, x92, x93, x94, x95, x96, x97, x98, rfl, hI⟩ hcl hdk haft
                rcases hI with ⟨hdf, HB, FA, EX, f0, f1, f2, f3, f4, f5, f6, f7, f8, f9, f10, f11, f12, f13, f14, f15⟩ | ⟨hdl, _⟩
                rotate_left
                · exact absurd ((hcl 13 _ rfl (hcl 14 _ rfl (hcl 16 _ rfl hdl ⟨14, .data⟩ (by simp) rfl) ⟨13, .data⟩ (by simp) rfl) ⟨12, .data⟩ (by simp) rfl).symm.trans hdk) (by decide)
                have h6 := haft ⟨6, .data⟩ (by simp) rfl
                have h10 := haft ⟨10, .data⟩ (by simp) rfl
                have h11 := haft ⟨11, .data⟩ (by simp) rfl
                have hap : d 14 = false := by
                  cases hh : d 14 with
                  | false => rfl
                  | true => exact absurd ((hcl 13 _ rfl (hcl 14 _ rfl hh ⟨13, .data⟩ (by simp) rfl) ⟨12, .data⟩ (by simp) rfl).symm.trans hdk) (by decide)
                have HW := hid (FA.out hap)
                obtain rfl := f6.out h6
                obtain rfl := f10.out h10
                obtain rfl := f11.out h11
                have hdz := hid hdf
                clear h6 h10 h11 hdk haft hcl hdf hap
                go_wp2
                exact rthenK_n ⟨_, _, _, _, _, _, _, _, _, _, _, _, _, _, _, _, rfl, .inl ⟨rkd rfl hdz, hid (HB.out.trans ((Below.refl w9.heap.size w9).mono (Nat.le_trans hbw HB.out.size))), hid (fun h => (FA.out (runupd rfl h)).trans ((Below.refl w9.heap.size w9).mono (FA.out (runupd rfl h)).size)), hid (⟨EX.out.1.below (Below.refl w9.heap.size w9), ((Below.refl w9.heap.size w9).block _ (lt_of_block EX.out.2.1)).trans EX.out.2.1, ((Below.refl w9.heap.size w9).block _ (lt_of_block EX.out.2.2)).trans EX.out.2.2⟩), rkf rfl f0 (fun h => by first | exact h | exact rfl), rkf rfl f1 (fun h => by first | exact h | exact rfl), rkf rfl f2 (fun h => by first | exact h | exact rfl), rkf rfl f3 (fun h => by first | exact h | exact rfl), rkf rfl f4 (fun h => by first | exact h | exact rfl), rkf rfl f5 (fun h => by first | exact h | exact rfl), rkf rfl f6 (fun h => by first | exact h | exact rfl), rkf rfl f7 (fun h => by first | exact h | exact rfl), rkf rfl f8 (fun h => by first | exact h | exact rfl), rkf rfl f9 (fun h => by first | exact h | exact rfl), rkf rfl f10 (fun h => by first | exact h | exact rfl), rkf rfl f11 (fun h => by first | exact h | exact rfl), rnf rfl, rkf rfl f13 (fun h => (by obtain ⟨g, e1, e2⟩ := h; exact ⟨g, e1, fun h15 => res_keep' (e2 (runupd rfl h15)) (Below.refl w9.heap.size w9) (lt_of_block (e2 (runupd rfl h15)))⟩)), rkf rfl f14 (fun h => own_belowS h (Below.refl w9.heap.size w9)), rkf rfl f15 (fun h => by first | exact h | exact rfl)⟩⟩
              · rintro d ac w9 ⟨x83, x84, x85, x86, x87, x88, x89, x90, x91, x92, x93, x94, x95, x96, x97, x98, rfl, hI⟩ hcl hdk haft
                rcases hI with ⟨hdf, HB, FA, EX, f0, f1, f2, f3, f4, f5, f6, f7, f8, f9, f10, f11, f12, f13, f14, f15⟩ | ⟨hdl, _⟩
                rotate_left
                · exact absurd ((hcl 14 _ rfl (hcl 16 _ rfl hdl ⟨14, .data⟩ (by simp) rfl) ⟨13, .data⟩ (by simp) rfl).symm.trans hdk) (by decide)
                have h12 := haft ⟨12, .data⟩ (by simp) rfl
                have hap : d 14 = false := by
                  cases hh : d 14 with
                  | false => rfl
                  | true => exact absurd ((hcl 14 _ rfl hh ⟨13, .data⟩ (by simp) rfl).symm.trans hdk) (by decide)
                have HW := hid (FA.out hap)
                obtain rfl := f12.out h12
                have hdz := hid hdf
                clear h12 hdk haft hcl hdf hap
                go_wp2
                exact rthenK_n ⟨_, _, _, _, _, _, _, _, _, _, _, _, _, _, _, _, rfl, .inl ⟨rkd rfl hdz, hid (HB.out.trans ((below_one w9 _).mono (Nat.le_trans hbw HB.out.size))), hid (fun h => (FA.out (runupd rfl h)).trans ((below_one w9 _).mono (FA.out (runupd rfl h)).size)), hid (⟨EX.out.1.below (below_one w9 _), ((below_one w9 _).block _ (lt_of_block EX.out.2.1)).trans EX.out.2.1, ((below_one w9 _).block _ (lt_of_block EX.out.2.2)).trans EX.out.2.2⟩), rkf rfl f0 (fun h => by first | exact h | exact rfl), rkf rfl f1 (fun h => by first | exact h | exact rfl), rkf rfl f2 (fun h => by first | exact h | exact rfl), rkf rfl f3 (fun h => by first | exact h | exact rfl), rkf rfl f4 (fun h => by first | exact h | exact rfl), rkf rfl f5 (fun h => by first | exact h | exact rfl), rkf rfl f6 (fun h => by first | exact h | exact rfl), rkf rfl f7 (fun h => by first | exact h | exact rfl), rkf rfl f8 (fun h => by first | exact h | exact rfl), rkf rfl f9 (fun h => by first | exact h | exact rfl), rkf rfl f10 (fun h => by first | exact h | exact rfl), rkf rfl f11 (fun h => by first | exact h | exact rfl), rkf rfl f12 (fun h => by first | exact h | exact rfl), rnf ⟨_, rfl, fun _ => heap_alloc_new w9 _⟩, rkf rfl f14 (fun h => own_belowS h (below_one w9 _)), rkf rfl f15 (fun h => by first | exact h | exact rfl)⟩⟩
              · rintro d ac w9 ⟨x83, x84, x85, x86, x87, x88, x89, x90, x91, x92, x93, x94, x95, x96, x97, x98, rfl, hI⟩ hcl hdk haft
                rcases hI with ⟨hdf, HB, FA, EX, f0, f1, f2, f3, f4, f5, f6, f7, f8, f9, f10, f11, f12, f13, f14, f15⟩ | ⟨hdl, _⟩
                rotate_left
                · exact absurd ((hcl 16 _ rfl hdl ⟨14, .data⟩ (by simp) rfl).symm.trans hdk) (by decide)
                have h1 := haft ⟨1, .data⟩ (by simp) rfl
                have h13 := haft ⟨13, .data⟩ (by simp) rfl
                have hap : d 14 = false := by
                  cases hh : d 14 with
                  | false => rfl
                  | true => exact absurd (hh.symm.trans hdk) (by decide)
                have HW := hid (FA.out hap)
                obtain rfl := f1.out h1
                obtain ⟨g13, rfl, hg13⟩ := f13.out h13
                have HG13 := hid (hg13 hap)
                clear hg13
                have hdz := hid hdf
                clear h1 h13 hdk haft hcl hdf hap
                have HU9 := hid (own_belowS HU.out HW.out)
                go_wp2_with (at_builtin; refine wpList_append_own _ rfl _ _ 40 rfl B 115 d0 _ 5 56 Tryz.underlying40 hd0 hd1 hd2 hd3 rfl (by decide) _ r.conds.length XS rfl HU9.out ⟨g13, 0, none⟩ 1 1 [.string ⟨t.t.toArray⟩, .int .i64 (oq : Int), .int .i64 v.k, .int .i64 v.n, .string v.s] rfl rfl (ren_cells HG13.out rfl) (ren_one rfl) (by unfold maxLen; omega) (by omega) (Nat.le_trans hbw HB.out.size) ?_; intro v8 w8 hown8 hg8 _)
                exact rthenK_n ⟨_, _, _, _, _, _, _, _, _, _, _, _, _, _, _, _, rfl, .inl ⟨rkd rfl hdz, hid (HB.out.grown hg8 (Nat.le_trans hbw HB.out.size) (fun k e => (HU9.out.lt k e).1)), hid (fun h => absurd h (fun h => rupd_self h)), hid (⟨EX.out.1.kept HU9.out (by decide) hg8, (hg8.block _ (lt_of_block EX.out.2.1) (fun e => HN1.out e.symm)).trans EX.out.2.1, (hg8.block _ (lt_of_block EX.out.2.2) (fun e => HN2.out e.symm)).trans EX.out.2.2⟩), rkf rfl f0 (fun h => by first | exact h | exact rfl), rkf rfl f1 (fun h => by first | exact h | exact rfl), rkf rfl f2 (fun h => by first | exact h | exact rfl), rkf rfl f3 (fun h => by first | exact h | exact rfl), rkf rfl f4 (fun h => by first | exact h | exact rfl), rkf rfl f5 (fun h => by first | exact h | exact rfl), rkf rfl f6 (fun h => by first | exact h | exact rfl), rkf rfl f7 (fun h => by first | exact h | exact rfl), rkf rfl f8 (fun h => by first | exact h | exact rfl), rkf rfl f9 (fun h => by first | exact h | exact rfl), rkf rfl f10 (fun h => by first | exact h | exact rfl), rkf rfl f11 (fun h => by first | exact h | exact rfl), rkf rfl f12 (fun h => by first | exact h | exact rfl), rkf rfl f13 (fun h => (by obtain ⟨g, e1, _⟩ := h; exact ⟨g, e1, fun h15 => absurd h15 (fun h => rupd_self h)⟩)), rnf hown8, rkf rfl f15 (fun h => by first | exact h | exact rfl)⟩⟩
              · rintro d ac w9 ⟨x83, x84, x85, x86, x87, x88, x89, x90, x91, x92, x93, x94, x95, x96, x97, x98, rfl, hI⟩ hcl hdk haft
                rcases hI with ⟨hdf, HB, FA, EX, f0, f1, f2, f3, f4, f5, f6, f7, f8, f9, f10, f11, f12, f13, f14, f15⟩ | ⟨hdl, _⟩
                rotate_left
                · exact absurd ((hcl 16 _ rfl hdl ⟨15, .data⟩ (by simp) rfl).symm.trans hdk) (by decide)
                have hdz := hid hdf
                clear  hdk haft hcl hdf
                go_wp2
                exact rthenK_n ⟨_, _, _, _, _, _, _, _, _, _, _, _, _, _, _, _, rfl, .inl ⟨rkd rfl hdz, hid (HB.out.trans ((Below.refl w9.heap.size w9).mono (Nat.le_trans hbw HB.out.size))), hid (fun h => (FA.out (runupd rfl h)).trans ((Below.refl w9.heap.size w9).mono (FA.out (runupd rfl h)).size)), hid (⟨EX.out.1.below (Below.refl w9.heap.size w9), ((Below.refl w9.heap.size w9).block _ (lt_of_block EX.out.2.1)).trans EX.out.2.1, ((Below.refl w9.heap.size w9).block _ (lt_of_block EX.out.2.2)).trans EX.out.2.2⟩), rkf rfl f0 (fun h => by first | exact h | exact rfl), rkf rfl f1 (fun h => by first | exact h | exact rfl), rkf rfl f2 (fun h => by first | exact h | exact rfl), rkf rfl f3 (fun h => by first | exact h | exact rfl), rkf rfl f4 (fun h => by first | exact h | exact rfl), rkf rfl f5 (fun h => by first | exact h | exact rfl), rkf rfl f6 (fun h => by first | exact h | exact rfl), rkf rfl f7 (fun h => by first | exact h | exact rfl), rkf rfl f8 (fun h => by first | exact h | exact rfl), rkf rfl f9 (fun h => by first | exact h | exact rfl), rkf rfl f10 (fun h => by first | exact h | exact rfl), rkf rfl f11 (fun h => by first | exact h | exact rfl), rkf rfl f12 (fun h => by first | exact h | exact rfl), rkf rfl f13 (fun h => (by obtain ⟨g, e1, e2⟩ := h; exact ⟨g, e1, fun h15 => res_keep' (e2 (runupd rfl h15)) (Below.refl w9.heap.size w9) (lt_of_block (e2 (runupd rfl h15)))⟩)), rkf rfl f14 (fun h => own_belowS h (Below.refl w9.heap.size w9)), rnf rfl⟩⟩
              · rintro d ac w9 ⟨x83, x84, x85, x86, x87, x88, x89, x90, x91, x92, x93, x94, x95, x96, x97, x98, rfl, hI⟩ hcl hdk haft
                rcases hI with ⟨hdf, HB, FA, EX, f0, f1, f2, f3, f4, f5, f6, f7, f8, f9, f10, f11, f12, f13, f14, f15⟩ | ⟨hdl, _⟩
                rotate_left
                · exact absurd (hdl.symm.trans hdk) (by decide)
                have h15 := haft ⟨15, .data⟩ (by simp) rfl
                have h14 := haft ⟨14, .data⟩ (by simp) rfl
                obtain rfl := f15.out h15
                have hap8 := hid (f14.out h14)
                have hdz := hid hdf
                have hp9 := EX.out.2.1
                have p3 : w9.cell? ⟨w.heap.size, 1, none⟩ = some (.slice Ac r.conds.length cc) := rcell hp9 rfl
                have fz : w9.frozen? ⟨w.heap.size, 1, none⟩ = false := by simp [World.frozen?, hp9]
                obtain ⟨g8, cap8, rfl⟩ := own_slice1 hap8.out
                clear hp9
                clear h15 h14 hdk haft hcl hdf
                go_wp2
                exact rthenK_n ⟨_, _, _, _, _, _, _, _, _, _, _, _, _, _, _, _, rfl, .inr ⟨rfl, hid (HFS.out w9 g8 cap8 hap8.out EX.out.1 EX.out.2.1 EX.out.2.2 HB.out)⟩⟩
            case fin =>
              rintro d ac w9 ⟨x83, x84, x85, x86, x87, x88, x89, x90, x91, x92, x93, x94, x95, x96, x97, x98, rfl, hI⟩ hall
              rcases hI with ⟨hd, _⟩ | ⟨_, HE⟩
              · exact absurd ((hall 16).symm.trans hd) (by decide)
              clear hall
              have HE1 := HE.out
              clear HE
              obtain ⟨g8, cap8, HRl, HP9, HQ9, HK9, hs9⟩ := HE1
              have c0' := box_cell HP9.out 0
              have c1' := box_cell HP9.out 1
              have hq9 := HQ9.out
              go_wp2_with (refine wpList_stored2 rfl rfl rfl rfl hq9 infoRlP rfl rfl ?_; intro w9' hz9 hg9')
              refine bodyPost_ret (by simp [results, Tryz.results66, go_sem, cell_res hz9]; rfl) rfl ?_
              have hx2 := HX4.out
              subst hx2
              exact ⟨⟨_, _, rfl, HRl.out.box hq9 hg9'⟩, HK9.out.trans (grown_below' hg9' (by omega) (by have := HK9.out.size; omega))⟩
    · rw [if_pos hk] at hx
      subst hx
      have dk : ((tkL L j).k == 1) = false := by simpa using hk
      generalize tkL L j = t at *
      clear hk
      obtain ⟨hp, hq⟩ := HCells.out w1 kA1
      have c0 := box_cell hp 0
      have c1 := box_cell hp 1
      clear HR HTs HCo HOp HIs
      go_wp2_with (refine wpList_store_res rfl rfl rfl rfl hq infoRlP rfl rfl ?_; intro w9 hz9 hb9)
      refine bodyPost_ret (by simp [results, Tryz.results66, go_sem, cell_res hz9]; rfl) rfl ?_
      exact ⟨⟨_, _, _, _, _, _, _, rfl⟩, k1.trans (hb9.mono (by omega))⟩
  | true =>
    have hy2 := hid HY.out
    have hi1 : i + 1 < L.length := hE.out.isT hy2.out
    have hx := HX.out
    simp only [if_true] at hx
    obtain ⟨j, hj⟩ : ∃ j, j = i + 1 := ⟨_, rfl⟩
    have hjl : j < L.length := by omega
    rw [← hj] at hx
    have ej : (i : Int) + 1 = (j : Int) := by omega
    clear hj
    obtain ⟨b, o, rfl, h0, h1⟩ := HT.out.cells (show j < L.length + 3 by omega)
    have hbB : b < B := hA ⟨b, o, none⟩ rfl
    have hbw : b < w.heap.size := by omega
    have HTx := hid (fun (W : World) (kW : Below B w W) => And.intro ((kW.cell (p := ⟨b, o + j * 6, none⟩) hbB).trans h0) ((kW.cell (p := ⟨b, o + j * 6 + 1, none⟩) hbB).trans h1))
    go_enter Tryz.func66, Tryz.ntmps66
    go_wp2_with fail
    refine hI0.out.mono ?_
    rintro e w1 ⟨rfl, b1⟩
    have kA1 := b1
    have k1 := k0.trans (b1.mono (by simp; omega))
    have hs1 := k1.size
    obtain ⟨x0, x1⟩ := HTx.out w1 k1
    have hwA := kA1.size
    simp at hwA
    clear b1 hI0 h0 h1
    by_cases hk : (tkL L j).k = 1
    · have hj1 : j + 1 < L.length := hE.out.one hk
      rw [if_neg (by rw [hk]; decide)] at hx
      obtain ⟨z, hz⟩ : ∃ z, isT (tkL L (j + 1)) sOpen = z := ⟨_, rfl⟩
      have hI1 := HIs.out w1 k1 sOpen (j + 1) (by omega) z hz
      rw [show (((j + 1 : Nat)) : Int) = (j : Int) + 1 by omega] at hI1
      have HI1 := hid hI1
      rw [hz] at hx
      have hj2 : z = true → j + 2 < L.length := fun h => hE.out.isT (hz.trans h)
      rw [hk] at x0
      clear hI1 hz hk
      cases z with
      | true =>
        have hj3 := hj2 rfl
        rw [if_pos rfl] at hx
        obtain ⟨q, hq⟩ : ∃ q, parenS (tkL L) L.length (j + 2) = q := ⟨_, rfl⟩
        rw [hq] at hx
        have HX2 := hid hx
        have HTt := hid (fun W kW => HTs.out W kW (j + 2) hj3 q hq)
        clear hx hq hj2 HX
        go_wp2_with fail
        refine HI1.out.mono ?_
        rintro e w2 ⟨rfl, b2⟩
        have kA2 := kA1.trans (b2.mono kA1.size)
        have k2 := k1.trans (b2.mono (by omega))
        have hs2 := k2.size
        have hT2 := HTt.out w2 k2
        rw [show (((j + 2 : Nat)) : Int) = (j : Int) + 2 by omega] at hT2
        have HT2 := hid hT2
        clear b2 HI1 hT2 HTt
        cases q with
        | bad eb =>
          go_wp2_with fail
          refine HT2.out.mono ?_
          rintro e w4 ⟨⟨nx, rfl⟩, b4⟩
          have kA4 := kA2.trans (b4.mono kA2.size)
          have k4 := k2.trans (b4.mono (by omega))
          have hs4 := k4.size
          have hut5 : w4.ownsRow B 146 4 (.slice none 0 0) 0 [] := World.ownsRow_nil _ _ _ _
          obtain ⟨x0', x1'⟩ := HTx.out w4 k4
          have hjn : (j : Int) < (n : Int) := by omega
          have kA5 := kA4
          have k5 := k4
          clear b4 HT2 x0 x1 x0'
          generalize tkL L j = t at *
          go_wp2
          obtain ⟨hp, hq⟩ := HCells.out w4 kA5
          obtain ⟨⟨us, hu0, hu1, hu2⟩, hcn⟩ := HR.out w4 kA5
          have hs5 := k5.size
          have hsA5 := kA5.size
          simp at hsA5
          have hne : Value.ownBlock (.slice Aa r.atoms.length ca) ≠ some w.heap.size := HNe.out w.heap.size (Nat.le_refl _)
          have hne2 : Value.ownBlock (.slice Aa r.atoms.length ca) ≠ some (w.heap.size + 1) := HNe.out _ (by omega)
          have HU := hid (And.intro hu0 hu2)
          have HU1 := hid hu1
          have HCn := hid hcn
          have HUt := hid hut5
          clear hu0 hu2 hcn hut5
          have c0 := box_cell hp 0
          have c1 := box_cell hp 1
          have hlt1 : w.heap.size < w4.heap.size := by omega
          have hlt2 : w.heap.size + 1 < w4.heap.size := by omega
          have hlt3 : b < w4.heap.size := by omega
          go_region_law (refine step_append_new_drew Tryz.underlying39 ha0 ha1 ha2 ha3 rfl (by decide) (by decide) rfl rfl rfl hu1 rfl rfl rfl (by omega) (by omega) ?_; intro v8 w8 hown8 hg8; obtain ⟨g8, cap8, rfl⟩ := own_slice1 hown8; have hp8 := (hg8.block w.heap.size (by show w.heap.size < w4.heap.size; omega) (fun e => hne e.symm)).trans hp; have c80 := box_cell hp8 0; have c81 := box_cell hp8 1; have f80 := box_free hp8 0)
          all_goals
            have hg8q : w4.grownBy w8 (Value.ownBlock (.slice Aa r.atoms.length ca)) := ⟨hg8.os, hg8.tape, hg8.output, hg8.size, hg8.block⟩
            have hq8 := (hg8q.block (w.heap.size + 1) (by omega) (fun e => hne2 e.symm)).trans hq
            have hAt := OwnAts.push (a := ⟨true, t.t, ([] : List Trm)⟩) HU.out.1 HU1.out HU.out.2 HUt.out hg8q rfl hown8
            have hCn := HCn.out.kept hg8q (ren_apart HCn.out HU1.out (by decide))
            have hRl : OwnRl w8 B (.slice (some ⟨g8, 0, none⟩) (r.atoms.length + 1) cap8) (.slice Ac r.conds.length cc) { r with atoms := r.atoms ++ [⟨true, t.t, ([] : List Trm)⟩] } := ⟨hAt, hCn⟩
            have hg9 := ren_set w8 w.heap.size 0 (.slice (some ⟨g8, 0, none⟩) (r.atoms.length + 1) cap8)
            have k8 : Below B w w8 := k5.trans (grown_below hu1 hg8q (by omega))
            have hs8 := k8.size
            have hsg : w4.heap.size ≤ w8.heap.size := hg8q.size
            have HRl := hid (hRl.box hp8 hg9)
            have k9 := k8.trans (grown_below' hg9 hB (by omega))
            have hq9 := (hg9.block (w.heap.size + 1) (by omega) (by simp)).trans hq8
            clear hAt hCn hRl hown8 hg8 hg8q HU HU1 HCn HUt hp hq hq8 hg9
            go_wp2_with (refine wpList_stored2 rfl rfl rfl rfl hq9 infoRlP rfl rfl ?_; intro w9 hz9 hg9')
            refine bodyPost_ret (by simp [results, Tryz.results66, go_sem, cell_res hz9]; rfl) rfl ?_
            have hx2 := HX2.out
            subst hx2
            exact ⟨⟨_, _, _, _, _, _, _, rfl⟩, k9.trans (grown_below' hg9' (by omega) (by have := k9.size; omega))⟩
        | ok ts nx =>
          go_wp2_with fail
          refine HT2.out.mono ?_
          rintro e w4 ⟨ut, rfl, hut, b4⟩
          have kA4 := kA2.trans (b4.mono kA2.size)
          have k4 := k2.trans (b4.mono (by omega))
          have hs4 := k4.size
          obtain ⟨At, ct, rfl⟩ := own_shape hut
          have hut5 := ren_mono hut (show B ≤ w2.heap.size by omega)
          obtain ⟨x0', x1'⟩ := HTx.out w4 k4
          have hjn : (j : Int) < (n : Int) := by omega
          have kA5 := kA4
          have k5 := k4
          clear b4 HT2 x0 x1 x0' hut
          generalize tkL L j = t at *
          go_wp2
          obtain ⟨hp, hq⟩ := HCells.out w4 kA5
          obtain ⟨⟨us, hu0, hu1, hu2⟩, hcn⟩ := HR.out w4 kA5
          have hs5 := k5.size
          have hsA5 := kA5.size
          simp at hsA5
          have hne : Value.ownBlock (.slice Aa r.atoms.length ca) ≠ some w.heap.size := HNe.out w.heap.size (Nat.le_refl _)
          have hne2 : Value.ownBlock (.slice Aa r.atoms.length ca) ≠ some (w.heap.size + 1) := HNe.out _ (by omega)
          have HU := hid (And.intro hu0 hu2)
          have HU1 := hid hu1
          have HCn := hid hcn
          have HUt := hid hut5
          clear hu0 hu2 hcn hut5
          have c0 := box_cell hp 0
          have c1 := box_cell hp 1
          have hlt1 : w.heap.size < w4.heap.size := by omega
          have hlt2 : w.heap.size + 1 < w4.heap.size := by omega
          have hlt3 : b < w4.heap.size := by omega
          go_region_law (refine step_append_new_drew Tryz.underlying39 ha0 ha1 ha2 ha3 rfl (by decide) (by decide) rfl rfl rfl hu1 rfl rfl rfl (by omega) (by omega) ?_; intro v8 w8 hown8 hg8; obtain ⟨g8, cap8, rfl⟩ := own_slice1 hown8; have hp8 := (hg8.block w.heap.size (by show w.heap.size < w4.heap.size; omega) (fun e => hne e.symm)).trans hp; have c80 := box_cell hp8 0; have c81 := box_cell hp8 1; have f80 := box_free hp8 0)
          all_goals
            have hg8q : w4.grownBy w8 (Value.ownBlock (.slice Aa r.atoms.length ca)) := ⟨hg8.os, hg8.tape, hg8.output, hg8.size, hg8.block⟩
            have hq8 := (hg8q.block (w.heap.size + 1) (by omega) (fun e => hne2 e.symm)).trans hq
            have hAt := OwnAts.push (a := ⟨true, t.t, ts⟩) HU.out.1 HU1.out HU.out.2 HUt.out hg8q rfl hown8
            have hCn := HCn.out.kept hg8q (ren_apart HCn.out HU1.out (by decide))
            have hRl : OwnRl w8 B (.slice (some ⟨g8, 0, none⟩) (r.atoms.length + 1) cap8) (.slice Ac r.conds.length cc) { r with atoms := r.atoms ++ [⟨true, t.t, ts⟩] } := ⟨hAt, hCn⟩
            have hg9 := ren_set w8 w.heap.size 0 (.slice (some ⟨g8, 0, none⟩) (r.atoms.length + 1) cap8)
            have k8 : Below B w w8 := k5.trans (grown_below hu1 hg8q (by omega))
            have hs8 := k8.size
            have hsg : w4.heap.size ≤ w8.heap.size := hg8q.size
            have HRl := hid (hRl.box hp8 hg9)
            have k9 := k8.trans (grown_below' hg9 hB (by omega))
            have hq9 := (hg9.block (w.heap.size + 1) (by omega) (by simp)).trans hq8
            clear hAt hCn hRl hown8 hg8 hg8q HU HU1 HCn HUt hp hq hq8 hg9
            go_wp2_with (refine wpList_stored2 rfl rfl rfl rfl hq9 infoRlP rfl rfl ?_; intro w9 hz9 hg9')
            refine bodyPost_ret (by simp [results, Tryz.results66, go_sem, cell_res hz9]; rfl) rfl ?_
            have hx2 := HX2.out
            subst hx2
            exact ⟨⟨_, _, rfl, HRl.out.box hq9 hg9'⟩, k9.trans (grown_below' hg9' (by omega) (by have := k9.size; omega))⟩
      | false =>
        simp only [if_neg (show ¬ (false = true) by decide)] at hx
        subst hx
        clear hj2
        go_wp2_with fail
        refine HI1.out.mono ?_
        rintro e w2 ⟨rfl, b2⟩
        have kA2 := kA1.trans (b2.mono kA1.size)
        have k2 := k1.trans (b2.mono (by omega))
        have hs2 := k2.size
        clear b2 HI1 x0 x1
        obtain ⟨hp, hq⟩ := HCells.out w2 kA2
        have c0 := box_cell hp 0
        have c1 := box_cell hp 1
        clear HR HTs HCo HOp HIs
        go_wp2_with (refine wpList_store_res rfl rfl rfl rfl hq infoRlP rfl rfl ?_; intro w9 hz9 hb9)
        refine bodyPost_ret (by simp [results, Tryz.results66, go_sem, cell_res hz9]; rfl) rfl ?_
        exact ⟨⟨_, _, _, _, _, _, _, rfl⟩, k2.trans (hb9.mono (by omega))⟩
    · rw [if_pos hk] at hx
      subst hx
      have dk : ((tkL L j).k == 1) = false := by simpa using hk
      generalize tkL L j = t at *
      clear hk
      obtain ⟨hp, hq⟩ := HCells.out w1 kA1
      have c0 := box_cell hp 0
      have c1 := box_cell hp 1
      clear HR HTs HCo HOp HIs
      go_wp2_with (refine wpList_store_res rfl rfl rfl rfl hq infoRlP rfl rfl ?_; intro w9 hz9 hb9)
      refine bodyPost_ret (by simp [results, Tryz.results66, go_sem, cell_res hz9]; rfl) rfl ?_
      exact ⟨⟨_, _, _, _, _, _, _, rfl⟩, k1.trans (hb9.mono (by omega))⟩
end
end Go.Proofs.YtnbacdmlaedppaaGreatDoor
