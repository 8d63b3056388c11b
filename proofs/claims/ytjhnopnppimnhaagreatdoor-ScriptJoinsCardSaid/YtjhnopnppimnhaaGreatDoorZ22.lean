/-
  PARTS of a claim, merged by segs.py: Pg1, Pg2, Pg3.
-/
import Derived.Test.YtjhnopnppimnhaaGreatDoorZ19
import Derived.Test.YtjhnopnppimnhaaGreatDoorShelf
import Derived.StillTailTactics
import Derived.Deep.MidRow
import Derived.Deep.RegionHeld3
namespace Go.Proofs.YtjhnopnppimnhaaGreatDoor

/-! ### Pg1 -/
section
open Go.RowKit

abbrev tokA (t : Tok) : Value := .agg #[.int .i64 t.k, .string ⟨t.t.toArray⟩, .int .i64 t.v.k, .int .i64 t.v.n, .string t.v.s, .int .i64 t.a]
abbrev tokO (t : Tok) : Obj := .cells #[.int .i64 t.k, .string ⟨t.t.toArray⟩, .int .i64 t.v.k, .int .i64 t.v.n, .string t.v.s, .int .i64 t.a] 117
theorem infoTkP : (Tryz.prog.info? 117).map (·.size) = some 6 := by kernel_rfl

theorem tok_kind (k v n a : Int) (t s : ByteArray) (W : World) : (Instr.field 117 (.agg #[.int .i64 k, .string t, .int .i64 v, .int .i64 n, .string s, .int .i64 a]) 0).run Tryz.prog W = .ok (.int .i64 k) W := by kernel_rfl
theorem tok_text (k v n a : Int) (t s : ByteArray) (W : World) : (Instr.field 117 (.agg #[.int .i64 k, .string t, .int .i64 v, .int .i64 n, .string s, .int .i64 a]) 1).run Tryz.prog W = .ok (.string t) W := by kernel_rfl
theorem tok_at (k v n a : Int) (t s : ByteArray) (W : World) : (Instr.field 117 (.agg #[.int .i64 k, .string t, .int .i64 v, .int .i64 n, .string s, .int .i64 a]) 3).run Tryz.prog W = .ok (.int .i64 a) W := by kernel_rfl
section
variable {bp c k : Nat} {A : Option Addr} {L : List Tok} {w : World}
set_option maxRecDepth 100000 in
set_option maxHeartbeats 1000000 in
theorem prs_token (h : PW bp A c L k w) :
    Calls Tryz.prog 66 #[.pointer (some ⟨bp, 0, none⟩)] w fun e w' => e = .returned (.agg #[.int .i64 (tkL L k).k, .string ⟨(tkL L k).t.toArray⟩, .int .i64 (tkL L k).v.k, .int .i64 (tkL L k).v.n, .string (tkL L k).v.s, .int .i64 (tkL L k).a]) ∧ Below w.heap.size w w' := by
  have hlt := h.block_lt
  obtain ⟨b, o, rfl, t0, t1, t2, t3, t4, t5⟩ := h.tok
  obtain ⟨c0, c1⟩ := h.cells
  have hk := h.lt
  have hf := h.few
  generalize hn : L.length = n at *
  have e1 : ((n : Int) - 1) = ((n - 1 : Nat) : Int) := by omega
  have e2 : min (k : Int) ((n - 1 : Nat) : Int) = (k : Int) := by omega
  have e3 : IntKind.i64.wrap ((n - 1 : Nat) : Int) = ((n - 1 : Nat) : Int) := by rw [IntKind.wrap_i64]; omega
  have hkn : (k : Int) < (n : Int) := by omega
  have k0 := below_one w (.cells #[.int .i64 0, .string ⟨#[]⟩, .int .i64 0, .int .i64 0, .string ⟨#[]⟩, .int .i64 0] 117)
  have hz := heap_alloc_new w (.cells #[.int .i64 0, .string ⟨#[]⟩, .int .i64 0, .int .i64 0, .string ⟨#[]⟩, .int .i64 0] 117)
  replace t0 := cell_keep k0 t0
  replace t1 := cell_keep k0 t1
  replace t2 := cell_keep k0 t2
  replace t3 := cell_keep k0 t3
  replace t4 := cell_keep k0 t4
  replace t5 := cell_keep k0 t5
  replace c0 := cell_keep k0 c0
  replace c1 := cell_keep k0 c1
  clear h hn hf
  generalize tkL L k = t at *
  go_enter Tryz.func66, Tryz.ntmps66
  go_wp2
  generalize w.alloc (.cells #[.int .i64 0, .string ⟨#[]⟩, .int .i64 0, .int .i64 0, .string ⟨#[]⟩, .int .i64 0] 117) = w1 at *
  go_still_tail 17, (by kernel_rfl)
  go_wp2_with (refine wpList_store_res rfl rfl rfl rfl hz infoTkP rfl rfl ?_; intro w9 hz9 hb9)
  refine bodyPost_ret (by simp [results, Tryz.results66, go_sem, cell_res hz9]; rfl) rfl ?_
  exact ⟨rfl, k0.trans (below_drewN (Below.refl _ _) 1 |>.trans hb9)⟩

set_option maxRecDepth 100000 in
set_option maxHeartbeats 1000000 in
theorem prs_end (h : PW bp A c L k w) {z : Bool} (hz : ((tkL L k).k == 0) = z) :
    Calls Tryz.prog 65 #[.pointer (some ⟨bp, 0, none⟩)] w fun e w' => e = .returned (.bool z) ∧ Below w.heap.size w w' := by
  have H1 := hid (prs_token h)
  clear h
  generalize tkL L k = t at *
  have F0 := tok_kind t.k t.v.k t.v.n t.a ⟨t.t.toArray⟩ t.v.s
  cases z <;>
  · go_enter Tryz.func65, Tryz.ntmps65
    go_wp2_with fail
    refine H1.out.mono ?_
    rintro e w1 ⟨rfl, b1⟩
    clear H1
    go_wp2
    go_ret
    exact ⟨rfl, b1⟩

/-- The texts of a variadic call. -/
def TxtsAt (w : World) (b o : Nat) (zs : List ByteArray) : Prop := ∀ j, j < zs.length → w.cell? ⟨b, o + j, none⟩ = some (.string (zs.getD j ByteArray.empty))
theorem TxtsAt.below {w w' : World} {b o : Nat} {zs : List ByteArray} (h : TxtsAt w b o zs) (hb : Below w.heap.size w w') : TxtsAt w' b o zs := fun j hj => cell_keep hb (h j hj)
/-- One of several texts. -/
def isAny (t : Tok) (zs : List ByteArray) : Bool := (t.k == 4 || t.k == 5) && Lib.containsS zs ⟨t.t.toArray⟩
theorem isAny_one (t : Tok) (s : Str) : isAny t [⟨s.toArray⟩] = isT t s := by
  unfold isAny isT
  congr 1
  cases h : (t.t == s) with
  | true =>
    have e : t.t = s := by simpa using h
    rw [e]; exact (Lib.containsS_iff _ _).2 (by simp)
  | false =>
    rw [Bool.eq_false_iff]
    intro hc
    have := (Lib.containsS_iff _ _).1 hc
    simp only [List.mem_singleton, ByteArray.mk.injEq] at this
    have e : t.t = s := by simpa using congrArg Array.toList this
    rw [e] at h; simp at h

set_option maxRecDepth 100000 in
set_option maxHeartbeats 1000000 in
theorem prs_is (h : PW bp A c L k w) {b o n m : Nat} {zs : List ByteArray} (hzs : TxtsAt w b o zs) (hn : zs.length = n) (hn2 : n ≤ 100) {z : Bool} (hz : isAny (tkL L k) zs = z) :
    Calls Tryz.prog 144 #[.pointer (some ⟨bp, 0, none⟩), .slice (some ⟨b, o, none⟩) n m] w fun e w' => e = .returned (.bool z) ∧ Below w.heap.size w w' := by
  have H1 := hid (prs_token h)
  have HZs := hid hzs
  have hn3 := hn
  have HC := fun (W : World) (x : ByteArray) (kw : Below w.heap.size w W) => hid (Tryz.slices_Contains_string b o n m zs x W (by omega) (by omega) (HZs.out.below kw))
  have htk : zs.take n = zs := by rw [← hn]; exact List.take_length
  unfold isAny at hz
  clear h hzs
  generalize tkL L k = t at *
  by_cases h4 : t.k = 4
  · have d4 : (t.k == 4) = true := by simpa using h4
    have HZ : Hid (Lib.containsS (zs.take n) ⟨t.t.toArray⟩ = z) := hid (by rw [htk, ← hz, d4]; simp)
    clear hz htk h4
    go_enter Tryz.func144, Tryz.ntmps144
    go_wp2_with fail
    refine H1.out.mono ?_
    rintro e w1 ⟨rfl, b1⟩
    have k2 := b1.trans ((below_one w1 (tokO t)).mono b1.size)
    have HC2 := hid (HC _ ⟨t.t.toArray⟩ k2).out
    clear H1 HC
    go_wp2_with fail
    refine HC2.out.mono ?_
    rintro e w2 ⟨rfl, rfl⟩
    clear HC2
    go_wp2
    go_ret
    exact ⟨by rw [HZ.out]; rfl, k2⟩
  · have d4 : (t.k == 4) = false := by simpa using h4
    by_cases h5 : t.k = 5
    · have d5 : (t.k == 5) = true := by simpa using h5
      have HZ : Hid (Lib.containsS (zs.take n) ⟨t.t.toArray⟩ = z) := hid (by rw [htk, ← hz, d4, d5]; simp)
      clear hz htk h4 h5
      go_enter Tryz.func144, Tryz.ntmps144
      go_wp2_with fail
      refine H1.out.mono ?_
      rintro e w1 ⟨rfl, b1⟩
      have k2 := b1.trans ((below_one w1 (tokO t)).mono b1.size)
      have HC2 := hid (HC _ ⟨t.t.toArray⟩ k2).out
      clear H1 HC
      go_wp2_with fail
      refine HC2.out.mono ?_
      rintro e w2 ⟨rfl, rfl⟩
      clear HC2
      go_wp2
      go_ret
      exact ⟨by rw [HZ.out]; rfl, k2⟩
    · have d5 : (t.k == 5) = false := by simpa using h5
      have HZ : Hid (false = z) := hid (by rw [← hz, d4, d5]; simp)
      clear hz htk h4 h5 HC
      go_enter Tryz.func144, Tryz.ntmps144
      go_wp2_with fail
      refine H1.out.mono ?_
      rintro e w1 ⟨rfl, b1⟩
      have k2 := b1.trans ((below_one w1 (tokO t)).mono b1.size)
      clear H1
      go_wp2
      go_ret
      exact ⟨by rw [HZ.out]; rfl, k2⟩

/-- What take answers. -/
def RetK (bp : Nat) (A : Option Addr) (c : Nat) (L : List Tok) (k : Nat) (z : Bool) (w : World) (e : Ending) (w' : World) : Prop :=
  e = .returned (.tuple #[.string (if z = true then ⟨(tkL L k).t.toArray⟩ else ⟨#[]⟩), .bool z]) ∧ PW bp A c L (if z = true then k + 1 else k) w' ∧ Chg [bp] w w'
theorem isAny_kind {t : Tok} {zs : List ByteArray} (h : isAny t zs = true) : t.k ≠ 0 := by
  unfold isAny at h
  simp only [Bool.and_eq_true, Bool.or_eq_true, beq_iff_eq] at h
  intro e
  rw [e] at h
  rcases h.1 with h | h <;> exact absurd h (by decide)
set_option maxRecDepth 100000 in
set_option maxHeartbeats 1000000 in
theorem prs_take (h : PW bp A c L k w) {b o n m : Nat} {zs : List ByteArray} (hzs : TxtsAt w b o zs) (hn : zs.length = n) (hn2 : n ≤ 100) {z : Bool} (hz : isAny (tkL L k) zs = z) :
    Calls Tryz.prog 121 #[.pointer (some ⟨bp, 0, none⟩), .slice (some ⟨b, o, none⟩) n m] w (RetK bp A c L k z w) := by
  have H1 := hid (prs_is (m := m) h hzs hn hn2 hz)
  have HP := hid h
  cases z with
  | false =>
    clear h hzs hz
    go_enter Tryz.func121, Tryz.ntmps121
    go_wp2_with fail
    refine H1.out.mono ?_
    rintro e w1 ⟨rfl, b1⟩
    clear H1
    go_wp2
    go_ret2
    exact ⟨rfl, HP.out.below b1, chg_below b1⟩
  | true =>
    have hkn := h.ended.lt (isAny_kind hz)
    have hf := h.few
    have HT := hid (fun W (p : PW bp A c L k W) => prs_token p)
    clear h hzs hz
    unfold RetK
    generalize tkL L k = t at *
    have F0 := tok_text t.k t.v.k t.v.n t.a ⟨t.t.toArray⟩ t.v.s
    go_enter Tryz.func121, Tryz.ntmps121
    go_wp2_with fail
    refine H1.out.mono ?_
    rintro e w1 ⟨rfl, b1⟩
    have P1 := hid (HP.out.below b1)
    have H2 := hid (HT.out _ P1.out)
    clear H1
    go_wp2_with fail
    refine H2.out.mono ?_
    rintro e w2 ⟨rfl, b2⟩
    have P2 := hid (P1.out.below b2)
    have c1 := P2.out.cells.2
    have hlt := P2.out.block_lt
    have f1 : w2.frozen? ⟨bp, 1, none⟩ = false := box_free P2.out.box 1
    have C2 := hid (((chg_below (S := [bp]) b1).trans (chg_below b2)).set (b := bp) (.inl (by simp)) 1 (.int .i64 ((k + 1 : Nat) : Int)))
    have P3 := hid (P2.out.step hkn)
    have ek : ((k + 1 : Nat) : Int) = (k : Int) + 1 := by omega
    rw [ek] at C2 P3
    clear H2 b1 b2 P1 P2 HP
    go_wp2
    go_ret2
    exact ⟨rfl, P3.out, C2.out⟩

set_option maxRecDepth 100000 in
set_option maxHeartbeats 1000000 in
theorem prs_skip (h : PW bp A c L k w) {b o n m : Nat} {zs : List ByteArray} (hzs : TxtsAt w b o zs) (hn : zs.length = n) (hn2 : n ≤ 100) {z : Bool} (hz : isAny (tkL L k) zs = z) :
    Calls Tryz.prog 86 #[.pointer (some ⟨bp, 0, none⟩), .slice (some ⟨b, o, none⟩) n m] w (RetZ bp A c L k z w) := by
  have H1 := hid (prs_take (m := m) h hzs hn hn2 hz)
  clear h hzs hz
  go_enter Tryz.func86, Tryz.ntmps86
  go_wp2_with fail
  refine H1.out.mono ?_
  rintro e w1 ⟨rfl, p1, c1⟩
  have P1 := hid (And.intro p1 c1)
  clear H1 p1 c1
  cases z <;>
  · go_wp2
    go_ret
    exact ⟨rfl, P1.out.1, P1.out.2⟩
theorem prs_skip1 (h : PW bp A c L k w) (g : Nat) {s : Str} (hg : w.cell? ⟨g, 0, none⟩ = some (.string ⟨s.toArray⟩)) (_hs : s.length ≤ 100) {z : Bool} (hz : isT (tkL L k) s = z) :
    Calls Tryz.prog 86 #[.pointer (some ⟨bp, 0, none⟩), .slice (some ⟨g, 0, none⟩) 1 1] w (RetZ bp A c L k z w) :=
  prs_skip (zs := [⟨s.toArray⟩]) h (fun j hj => by have : j = 0 := by simpa using hj
                                                   subst this; exact hg) rfl (by simp) (by rw [isAny_one]; exact hz)

set_option maxRecDepth 100000 in
set_option maxHeartbeats 1000000 in
theorem prs_name (h : PW bp A c L k w) {bn o : Nat} {arr : Array Value} {tn : TypeId} {Z : ByteArray} (hb : w.heap[bn]? = some (.cells arr tn)) (hZ : arr[o]? = some (.string Z)) (hne : bp < bn) {z : Bool} (hz : ((tkL L k).k == 1) = z) :
    Calls Tryz.prog 88 #[.pointer (some ⟨bp, 0, none⟩), .pointer (some ⟨bn, o, none⟩)] w fun e w' => e = .returned (.bool z) ∧ PW bp A c L (if z = true then k + 1 else k) w' ∧ w'.heap[bn]? = some (.cells (if z = true then arr.setIfInBounds o (.string ⟨(tkL L k).t.toArray⟩) else arr) tn) ∧ Chg [bp, bn] w w' := by
  have H1 := hid (prs_token h)
  have HP := hid h
  have HB := hid hb
  have hlt := lt_of_block hb
  cases z with
  | false =>
    have d1 : ((tkL L k).k != 1) = true := by simp only [bne, hz]; rfl
    clear h hb hz
    generalize tkL L k = t at *
    go_enter Tryz.func88, Tryz.ntmps88
    go_wp2_with fail
    refine H1.out.mono ?_
    rintro e w1 ⟨rfl, b1⟩
    have k2 := b1.trans ((below_one w1 (tokO t)).mono b1.size)
    have C2 := hid (And.intro (HP.out.below k2) (And.intro (((k2.block bn hlt)).trans HB.out) (chg_below (S := [bp, bn]) k2)))
    clear H1 HP HB
    go_wp2
    go_ret
    exact ⟨rfl, C2.out.1, C2.out.2.1, C2.out.2.2⟩
  | true =>
    have hk1 : (tkL L k).k = 1 := by simpa using hz
    have d1 : ((tkL L k).k != 1) = false := by simp only [bne, hz]; rfl
    have hkn := h.ended.one hk1
    have hf := h.few
    have hlp := h.block_lt
    clear h hb hz hk1
    generalize tkL L k = t at *
    go_enter Tryz.func88, Tryz.ntmps88
    go_wp2_with fail
    refine H1.out.mono ?_
    rintro e w1 ⟨rfl, b1⟩
    have k2 := b1.trans ((below_one w1 (tokO t)).mono b1.size)
    have P2 := hid (HP.out.below k2)
    have B2 := hid ((k2.block bn hlt).trans HB.out)
    have C2 := hid (chg_below (S := [bp, bn]) k2)
    have e0 : (w1.alloc (tokO t)).cell? ⟨bn, o, none⟩ = some (.string Z) := by rw [cell_res' B2.out]; exact hZ
    have f0 : (w1.alloc (tokO t)).frozen? ⟨bn, o, none⟩ = false := box_free B2.out o
    have hl2 := lt_of_block B2.out
    have c3 := hid ((C2.out.set (b := bn) (.inl (by simp)) o (.string ⟨t.t.toArray⟩)).set (b := bp) (.inl (by simp)) 1 (.int .i64 ((k + 1 : Nat) : Int)))
    have P3 := hid ((P2.out.chg ((Chg.refl [bn] _).set (b := bn) (.inl (by simp)) o (.string ⟨t.t.toArray⟩)) (fun s hs => by simp at hs; omega)).step hkn)
    have B3 := hid ((Below.heap_setCell ((w1.alloc (tokO t)).setCell ⟨bn, o, none⟩ (.string ⟨t.t.toArray⟩)) ⟨bp, 1, none⟩ (.int .i64 ((k + 1 : Nat) : Int)) bn (by show bn ≠ bp; omega)).trans (heap_setCell_same (w1.alloc (tokO t)) bn o arr tn (.string ⟨t.t.toArray⟩) B2.out))
    have q1 : ((w1.alloc (tokO t)).setCell ⟨bn, o, none⟩ (.string ⟨t.t.toArray⟩)).cell? ⟨bp, 1, none⟩ = some (.int .i64 k) := (World.cell?_setCell_other _ _ _ _ (by intro e'; simp only [Addr.mk.injEq] at e'; omega)).trans P2.out.cells.2
    have f1 : ((w1.alloc (tokO t)).setCell ⟨bn, o, none⟩ (.string ⟨t.t.toArray⟩)).frozen? ⟨bp, 1, none⟩ = false := box_free ((Below.heap_setCell _ _ _ _ (by show bp ≠ bn; omega)).trans P2.out.box) 1
    have hl3 : bp < ((w1.alloc (tokO t)).setCell ⟨bn, o, none⟩ (.string ⟨t.t.toArray⟩)).heap.size := by simp only [World.setCell, Array.size_modify]; exact P2.out.block_lt
    have ek : ((k + 1 : Nat) : Int) = (k : Int) + 1 := by omega
    rw [ek] at c3 P3 B3
    clear H1 HP HB P2 B2 C2 b1
    go_wp2
    go_ret
    exact ⟨rfl, P3.out, B3.out, c3.out⟩
end
end

/-! ### Pg2 -/
section
open Go.RowKit

def idxW (bp : Nat) (w : World) : Nat := (intOf ((w.cell? ⟨bp, 1, none⟩).getD (.int .i64 0))).toNat
theorem PW.idx {bp c k : Nat} {A : Option Addr} {L : List Tok} {w : World} (h : PW bp A c L k w) : idxW bp w = k := by
  unfold idxW
  rw [h.cells.2]
  simp [intOf]
/-- What an element answers. -/
def RetE {σ : Type} (bp : Nat) (A : Option Addr) (c : Nat) (L : List Tok) (o : Out σ) (Rb : World → Prop) (R : Nat → σ → World → Prop) (e : Ending) (w' : World) : Prop := match o with
  | .bad b => e = .returned (.bool false) ∧ PW bp A c L b w' ∧ Rb w'
  | .ok x nx => e = .returned (.bool true) ∧ PW bp A c L nx w' ∧ R nx x w'

set_option maxRecDepth 100000 in
set_option maxHeartbeats 1000000 in
theorem prs_list {σ : Type} {bp c : Nat} {A : Option Addr} {L : List Tok} {fe : Nat} {cap : Array Value} {sep : Str} (step : Nat → σ → Out σ) (R : Nat → σ → World → Prop) (Rb : World → Prop)
    (hcf : ∀ args w, (callFunc fe args).run Tryz.prog w = .ok (.enter fe args) w) (hsep : sep.length ≤ 100) (hnx : ∀ i nx a b, step i a = .ok b nx → i < nx ∧ nx < L.length) (hR : ∀ i j s W W', R i s W → Chg [bp] W W' → i ≤ j → R j s W')
    (he : ∀ s i W, PW bp A c L i W → R i s W → Calls Tryz.prog fe cap W (RetE bp A c L (step i s) Rb R)) {s : σ} {w : World} {k : Nat} (hp : PW bp A c L k w) (hr : R k s w) {o : Out σ} (ho : listS (tkL L) sep step L.length k s = o) :
    Calls Tryz.prog 83 #[.pointer (some ⟨bp, 0, none⟩), .string ⟨sep.toArray⟩, .func (.func fe) #[] cap] w (RetE bp A c L o Rb R) := by
  have HE := hid he
  have HNX := hid hnx
  have HR := hid hR
  have HP := hid hp
  have HS := hid hr
  have HO := hid ho
  have HEn := hid hp.ended
  have hkL := hp.lt
  clear he hnx hR hp hr ho
  go_enter Tryz.func83, Tryz.ntmps83
  go_wp2
  go_loopw [7] (fun _ wr => ∃ (i : Nat) (x : σ) (f : Nat), Hid (PW bp A c L i wr) ∧ Hid (R i x wr) ∧ i < L.length ∧ L.length ≤ f + i ∧ Hid (listS (tkL L) sep step f i x = o)) (fun _ wr => L.length - idxW bp wr)
  case atStart => exact ⟨k, s, L.length, HP, HS, hkL, by omega, HO⟩
  case round =>
    obtain ⟨i, x, f, HP1, HS1, hi, hf, HO1⟩ := hrel
    clear HP HS HO
    have hix := HP1.out.idx
    have HIx := hid hix
    obtain ⟨f, rfl⟩ : ∃ f', f = f' + 1 := ⟨f - 1, by omega⟩
    have hO := HO1.out
    rw [listS] at hO
    have hC := HE.out x i wr HP1.out HS1.out
    obtain ⟨r, hr⟩ : ∃ r, step i x = r := ⟨_, rfl⟩
    rw [hr] at hO hC
    cases r with
    | bad b =>
      simp only at hO
      subst hO
      have HC := hid hC
      clear hC hr HO1 HP1 HS1 HIx hix
      go_wp2_with fail
      refine HC.out.mono ?_
      rintro e w1 ⟨rfl, p1, r1⟩
      have P1 := hid (And.intro p1 r1)
      clear p1 r1 HC
      go_wp2
      go_ret
      exact ⟨rfl, P1.out.1, P1.out.2⟩
    | ok y nx =>
      have hnx2 := HNX.out i nx x y hr
      simp only at hO
      have HC := hid hC
      obtain ⟨z, hz⟩ : ∃ z, isT (tkL L nx) sep = z := ⟨_, rfl⟩
      have HSk := hid (fun W (kp : PW bp A c L nx W) g (hg : W.cell? ⟨g, 0, none⟩ = some (.string ⟨sep.toArray⟩)) => prs_skip1 kp g hg hsep hz)
      rw [hz] at hO
      cases z with
      | false =>
        rw [if_neg (by decide)] at hO
        subst hO
        clear hC hr HO1 HP1 HS1 HIx hix hz
        go_wp2_with fail
        refine HC.out.mono ?_
        rintro e w1 ⟨rfl, p1, r1⟩
        have hb1 := below_one w1 (.cells #[.string ⟨sep.toArray⟩] 9)
        have HSk2 := hid (HSk.out _ (p1.below hb1) w1.heap.size (by simp))
        have P1 := hid (HR.out _ _ _ _ _ r1 (chg_below hb1) (Nat.le_refl _))
        clear p1 r1 HC HSk hb1
        go_wp2_with fail
        refine HSk2.out.mono ?_
        rintro e w2 ⟨rfl, p2, c2⟩
        have P2 := hid (And.intro p2 c2)
        clear p2 c2 HSk2
        go_wp2
        go_ret
        exact ⟨rfl, P2.out.1, HR.out _ _ _ _ _ P1.out P2.out.2 (Nat.le_refl _)⟩
      | true =>
        have hnt := HEn.out.isT hz
        rw [if_pos rfl] at hO
        have HO2 := hid hO
        clear hC hr HO1 HP1 HS1 hz hO
        go_wp2_with fail
        refine HC.out.mono ?_
        rintro e w1 ⟨rfl, p1, r1⟩
        have hb1 := below_one w1 (.cells #[.string ⟨sep.toArray⟩] 9)
        have HSk2 := hid (HSk.out _ (p1.below hb1) w1.heap.size (by simp))
        have P1 := hid (HR.out _ _ _ _ _ r1 (chg_below hb1) (Nat.le_refl _))
        clear p1 r1 HC HSk hb1
        go_wp2_with fail
        refine HSk2.out.mono ?_
        rintro e w2 ⟨rfl, p2, c2⟩
        have P2 := hid (And.intro p2 c2)
        clear p2 c2 HSk2
        go_wp2
        go_roundw
        case rel => exact ⟨nx + 1, y, f, hid P2.out.1, hid (HR.out _ _ _ _ _ P1.out P2.out.2 (by omega)), by omega, by omega, HO2⟩
        case measure =>
          have h1 := HIx.out
          have h2 := P2.out.1.idx
          simp only [if_true] at h2
          rw [h1, h2]
          omega
end

/-! ### Pg3 -/
section
open Go.RowKit

/-- Three cells of a block. -/
def three (arr : Array Value) (o : Nat) (v : V) : Array Value := ((arr.setIfInBounds o (.int .i64 v.k)).setIfInBounds (o + 1) (.int .i64 v.n)).setIfInBounds (o + 1 + 1) (.string v.s)
theorem set_three {w : World} {b o : Nat} {arr : Array Value} {t : TypeId} (h : w.heap[b]? = some (.cells arr t)) (v : V) : (w.setCells b o [.int .i64 v.k, .int .i64 v.n, .string v.s]).heap[b]? = some (.cells (three arr o v) t) :=
  heap_setCell_same _ b (o + 1 + 1) _ t _ (heap_setCell_same _ b (o + 1) _ t _ (heap_setCell_same w b o arr t _ h))
theorem chg_three (w : World) (b o : Nat) (v : V) : Chg [b] w (w.setCells b o [.int .i64 v.k, .int .i64 v.n, .string v.s]) :=
  (((Chg.refl [b] w).set (.inl (by simp)) o _).set (.inl (by simp)) (o + 1) _).set (.inl (by simp)) (o + 1 + 1) _
theorem there_three {w : World} {b o : Nat} {arr : Array Value} {t : TypeId} (h : w.heap[b]? = some (.cells arr t)) (ho : o + 2 < arr.size) : w.there b o 3 := fun j hj => by
  refine ⟨?_, box_free h _⟩
  rw [cell_res' h, Array.getElem?_eq_getElem (by omega)]
  rfl
theorem one_three (v : V) : (#[.int .i64 v.k, .int .i64 v.n, .string v.s] : Array Value).all (·.oneCell') = true := by simp [Value.oneCell']
/-- What constant answers. -/
def RetC (bp : Nat) (A : Option Addr) (c : Nat) (L : List Tok) (k bv o : Nat) (arr : Array Value) (tn : TypeId) (x : Option V) (w : World) (e : Ending) (w' : World) : Prop := (match x with
  | none => e = .returned (.bool false) ∧ PW bp A c L k w' ∧ w'.heap[bv]? = some (.cells arr tn)
  | some v => e = .returned (.bool true) ∧ PW bp A c L (k + 1) w' ∧ w'.heap[bv]? = some (.cells (three arr o v) tn)) ∧ Chg [bp, bv] w w'
section
variable {bp c k : Nat} {A : Option Addr} {L : List Tok} {w : World}
set_option maxRecDepth 100000 in
set_option maxHeartbeats 1000000 in
theorem prs_const (h : PW bp A c L k w) {bv o : Nat} {arr : Array Value} {tn : TypeId} (hb : w.heap[bv]? = some (.cells arr tn)) (ho : o + 2 < arr.size) (hne : bp < bv) {x : Option V} (hx : constT (tkL L k) = x) :
    Calls Tryz.prog 147 #[.pointer (some ⟨bp, 0, none⟩), .pointer (some ⟨bv, o, none⟩)] w (RetC bp A c L k bv o arr tn x w) := by
  have H1 := hid (prs_token h)
  have HP := hid h
  have HB := hid hb
  have hlt := lt_of_block hb
  have hf := h.few
  have hlp := h.block_lt
  have HEn := hid h.ended
  have hkn : (∃ v, x = some v) → k + 1 < L.length := fun ⟨v, e⟩ => h.ended.con (hx.trans e)
  clear h hb
  unfold constT at hx
  obtain ⟨t, ht⟩ : ∃ t, tkL L k = t := ⟨_, rfl⟩
  rw [ht] at H1 hx
  by_cases hk : t.k = 2 ∨ t.k = 3
  · rw [if_pos hk] at hx
    replace hkn : k + 1 < L.length := hkn ⟨_, hx.symm⟩
    subst hx
    have go : ∀ (q : Bool), (t.k != 2) = q → (q = true → (t.k != 3) = false) → Calls Tryz.prog 147 #[.pointer (some ⟨bp, 0, none⟩), .pointer (some ⟨bv, o, none⟩)] w (RetC bp A c L k bv o arr tn (some t.v) w) := fun q h2 h3 => by
      clear hk ht
      cases q with
      | true =>
        have h4 := h3 rfl
        clear h3
        go_enter Tryz.func147, Tryz.ntmps147
        go_wp2_with fail
        refine H1.out.mono ?_
        rintro e w1 ⟨rfl, b1⟩
        have k2 := b1.trans ((below_one w1 (tokO t)).mono b1.size)
        have P2 := hid (HP.out.below k2)
        have B2 := hid ((k2.block bv hlt).trans HB.out)
        have C2 := hid (chg_below (S := [bp, bv]) k2)
        obtain ⟨w3, hw3⟩ : ∃ w3, (w1.alloc (tokO t)).setCells bv o [.int .i64 t.v.k, .int .i64 t.v.n, .string t.v.s] = w3 := ⟨_, rfl⟩
        have P3 := hid (P2.out.chg (chg_three (w1.alloc (tokO t)) bv o t.v) (fun s hs => by simp at hs; omega))
        have B3 := hid (set_three (o := o) B2.out t.v)
        have C3 := hid (C2.out.then (chg_three (w1.alloc (tokO t)) bv o t.v) (fun s hs => .inl (by simp at hs; simp [hs])))
        have HTh := hid (there_three B2.out ho)
        rw [hw3] at P3 B3 C3
        have c1 := P3.out.cells.2
        have f1 : w3.frozen? ⟨bp, 1, none⟩ = false := box_free P3.out.box 1
        have l3 := P3.out.block_lt
        have P4 := hid (P3.out.step hkn)
        have B4 := hid ((Below.heap_setCell w3 ⟨bp, 1, none⟩ (.int .i64 ((k + 1 : Nat) : Int)) bv (by show bv ≠ bp; omega)).trans B3.out)
        have C4 := hid (C3.out.set (b := bp) (.inl (by simp)) 1 (.int .i64 ((k + 1 : Nat) : Int)))
        have ek : ((k + 1 : Nat) : Int) = (k : Int) + 1 := by omega
        rw [ek] at P4 B4 C4
        have HW3 := hid hw3
        clear H1 HP HB P2 B2 C2 P3 B3 C3 b1 hw3
        go_wp2_with (refine wpList_store_mid rfl _ _ _ rfl bv o #[.int .i64 t.v.k, .int .i64 t.v.n, .string t.v.s] rfl rfl HTh.out infoVal (one_three t.v) ?_; show wpList _ _ _ _ _ ((w1.alloc (tokO t)).setCells bv o [.int .i64 t.v.k, .int .i64 t.v.n, .string t.v.s]); rw [HW3.out])
        go_ret
        exact ⟨⟨rfl, P4.out, B4.out⟩, C4.out⟩
      | false =>
        clear h3
        go_enter Tryz.func147, Tryz.ntmps147
        go_wp2_with fail
        refine H1.out.mono ?_
        rintro e w1 ⟨rfl, b1⟩
        have k2 := b1.trans ((below_one w1 (tokO t)).mono b1.size)
        have P2 := hid (HP.out.below k2)
        have B2 := hid ((k2.block bv hlt).trans HB.out)
        have C2 := hid (chg_below (S := [bp, bv]) k2)
        obtain ⟨w3, hw3⟩ : ∃ w3, (w1.alloc (tokO t)).setCells bv o [.int .i64 t.v.k, .int .i64 t.v.n, .string t.v.s] = w3 := ⟨_, rfl⟩
        have P3 := hid (P2.out.chg (chg_three (w1.alloc (tokO t)) bv o t.v) (fun s hs => by simp at hs; omega))
        have B3 := hid (set_three (o := o) B2.out t.v)
        have C3 := hid (C2.out.then (chg_three (w1.alloc (tokO t)) bv o t.v) (fun s hs => .inl (by simp at hs; simp [hs])))
        have HTh := hid (there_three B2.out ho)
        rw [hw3] at P3 B3 C3
        have c1 := P3.out.cells.2
        have f1 : w3.frozen? ⟨bp, 1, none⟩ = false := box_free P3.out.box 1
        have l3 := P3.out.block_lt
        have P4 := hid (P3.out.step hkn)
        have B4 := hid ((Below.heap_setCell w3 ⟨bp, 1, none⟩ (.int .i64 ((k + 1 : Nat) : Int)) bv (by show bv ≠ bp; omega)).trans B3.out)
        have C4 := hid (C3.out.set (b := bp) (.inl (by simp)) 1 (.int .i64 ((k + 1 : Nat) : Int)))
        have ek : ((k + 1 : Nat) : Int) = (k : Int) + 1 := by omega
        rw [ek] at P4 B4 C4
        have HW3 := hid hw3
        clear H1 HP HB P2 B2 C2 P3 B3 C3 b1 hw3
        go_wp2_with (refine wpList_store_mid rfl _ _ _ rfl bv o #[.int .i64 t.v.k, .int .i64 t.v.n, .string t.v.s] rfl rfl HTh.out infoVal (one_three t.v) ?_; show wpList _ _ _ _ _ ((w1.alloc (tokO t)).setCells bv o [.int .i64 t.v.k, .int .i64 t.v.n, .string t.v.s]); rw [HW3.out])
        go_ret
        exact ⟨⟨rfl, P4.out, B4.out⟩, C4.out⟩
    rcases hk with hk | hk
    · exact go false (by rw [hk]; rfl) (fun h => by cases h)
    · exact go true (by rw [hk]; rfl) (fun _ => by rw [hk]; rfl)
  · rw [if_neg hk] at hx
    subst hx
    have h2 : (t.k != 2) = true := by simp; exact fun h => hk (.inl h)
    have h3 : (t.k != 3) = true := by simp; exact fun h => hk (.inr h)
    clear hk hkn ht
    go_enter Tryz.func147, Tryz.ntmps147
    go_wp2_with fail
    refine H1.out.mono ?_
    rintro e w1 ⟨rfl, b1⟩
    have k2 := b1.trans ((below_one w1 (tokO t)).mono b1.size)
    have P2 := hid (HP.out.below k2)
    have B2 := hid ((k2.block bv hlt).trans HB.out)
    have C2 := hid (chg_below (S := [bp, bv]) k2)
    clear H1 HP HB b1
    go_wp2
    go_ret
    exact ⟨⟨rfl, P2.out, B2.out⟩, C2.out⟩
end
end
end Go.Proofs.YtjhnopnppimnhaaGreatDoor
