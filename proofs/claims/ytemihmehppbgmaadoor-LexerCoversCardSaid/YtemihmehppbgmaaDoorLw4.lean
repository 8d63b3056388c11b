/-
  WALK: lexer.Scan.
-/
import Derived.Test.YtemihmehppbgmaaDoorLw3
import Derived.Test.YtemihmehppbgmaaDoorKit2
namespace Go.Proofs.YtemihmehppbgmaaDoor
open Go.RowKit

/-- The cells of tokens. -/
def flatT (l : List Tok) : List Value := l.flatMap fun t => [.int .i64 t.k, .string ⟨t.t.toArray⟩, .int .i64 t.v.k, .int .i64 t.v.n, .string t.v.s, .int .i64 t.a]
theorem flatT_length : ∀ l : List Tok, (flatT l).length = l.length * 6
  | [] => rfl
  | t :: l => by
    have := flatT_length l
    simp only [flatT, List.flatMap_cons, List.length_append, List.length_cons] at *
    simp only [List.length_nil]; omega
theorem flatT_append (a b : List Tok) : flatT (a ++ b) = flatT a ++ flatT b := by simp [flatT]
theorem flatT_get : ∀ (l : List Tok) (i : Nat) (h : i < l.length), (flatT l)[i * 6]? = some (.int .i64 l[i].k) ∧ (flatT l)[i * 6 + 1]? = some (.string ⟨l[i].t.toArray⟩) ∧ (flatT l)[i * 6 + 2]? = some (.int .i64 l[i].v.k) ∧ (flatT l)[i * 6 + 3]? = some (.int .i64 l[i].v.n) ∧ (flatT l)[i * 6 + 4]? = some (.string l[i].v.s) ∧ (flatT l)[i * 6 + 5]? = some (.int .i64 l[i].a)
  | t :: l, 0, _ => ⟨rfl, rfl, rfl, rfl, rfl, rfl⟩
  | t :: l, i + 1, h => by
    have := flatT_get l i (by simpa using h)
    have e : (i + 1) * 6 = i * 6 + 6 := by omega
    simpa [flatT, e, Nat.add_assoc] using this

/-- A slice of tokens. -/
def TokAt (w : World) (A : Option Addr) (l : List Tok) : Prop :=
  0 < l.length → ∃ b o, A = some ⟨b, o, none⟩ ∧ ∀ i (h : i < l.length),
    w.cell? ⟨b, o + i * 6, none⟩ = some (.int .i64 l[i].k) ∧ w.cell? ⟨b, o + i * 6 + 1, none⟩ = some (.string ⟨l[i].t.toArray⟩) ∧ w.cell? ⟨b, o + i * 6 + 2, none⟩ = some (.int .i64 l[i].v.k) ∧ w.cell? ⟨b, o + i * 6 + 3, none⟩ = some (.int .i64 l[i].v.n) ∧ w.cell? ⟨b, o + i * 6 + 4, none⟩ = some (.string l[i].v.s) ∧ w.cell? ⟨b, o + i * 6 + 5, none⟩ = some (.int .i64 l[i].a)
theorem TokAt.below {w w' : World} {A : Option Addr} {l : List Tok} (h : TokAt w A l) (hb : Below w.heap.size w w') : TokAt w' A l := fun hp => by
  obtain ⟨b, o, e, hc⟩ := h hp
  refine ⟨b, o, e, fun i hi => ?_⟩
  obtain ⟨h0, h1, h2, h3, h4, h5⟩ := hc i hi
  exact ⟨cell_keep hb h0, cell_keep hb h1, cell_keep hb h2, cell_keep hb h3, cell_keep hb h4, cell_keep hb h5⟩
theorem own_toks {w : World} {B : Nat} {e : TypeId} {v : Value} {l : List Tok} (h : w.ownsRow B e 6 v l.length (flatT l)) : ∃ A c, v = .slice A l.length c ∧ TokAt w A l ∧ l.length ≤ c := by
  rcases h.2 with ⟨rfl, h0⟩ | ⟨g, cap, cur, rfl, hB, hh, hn, hm, hcs, ht⟩
  · exact ⟨none, 0, by rw [h0], fun hp => by omega, by omega⟩
  · refine ⟨some ⟨g, 0, none⟩, cap, rfl, fun hp => ⟨g, 0, rfl, fun i hi => ?_⟩, hn⟩
    obtain ⟨e0, e1, e2, e3, e4, e5⟩ := flatT_get l i hi
    have hl := flatT_length l
    refine ⟨?_, ?_, ?_, ?_, ?_, ?_⟩
    · rw [h.cellAt _ (by omega)]; rw [Nat.zero_add]; exact e0
    · rw [h.cellAt _ (by omega)]; rw [Nat.zero_add]; exact e1
    · rw [h.cellAt _ (by omega)]; rw [Nat.zero_add]; exact e2
    · rw [h.cellAt _ (by omega)]; rw [Nat.zero_add]; exact e3
    · rw [h.cellAt _ (by omega)]; rw [Nat.zero_add]; exact e4
    · rw [h.cellAt _ (by omega)]; rw [Nat.zero_add]; exact e5

/-- A call that returns tokens, an offset and an error's number. -/
def RetS (w : World) (x : List Tok × Int × Int) (e : Ending) (w' : World) : Prop :=
  ∃ A c, e = .returned (.tuple #[.slice A x.1.length c, .int .i64 x.2.1, .int .i64 x.2.2]) ∧ TokAt w' A x.1 ∧ x.1.length ≤ c ∧ Below w.heap.size w w'

theorem scan1_skip : ∀ (l : List UInt8) (a : Int), scan1 l a = scan1 (l.drop (skipN l)) (a + skipN l)
  | [], a => by simp [skipN]
  | c :: r, a => by
    by_cases h : whtB c = true
    · have e : skipN (c :: r) = skipN r + 1 := by unfold skipN; rw [List.takeWhile_cons, if_pos h]; rfl
      rw [scan1_white h, scan1_skip r (a + 1), e, List.drop_succ_cons]
      congr 1; omega
    · have e : skipN (c :: r) = 0 := by unfold skipN; rw [List.takeWhile_cons, if_neg h]; rfl
      rw [e]; simp
theorem skip_head : ∀ (l : List UInt8), l.drop (skipN l) = [] ∨ whtB ((l.drop (skipN l)).getD 0 0) = false
  | [] => .inl (by simp)
  | c :: r => by
    by_cases h : whtB c = true
    · have e : skipN (c :: r) = skipN r + 1 := by unfold skipN; rw [List.takeWhile_cons, if_pos h]; rfl
      rw [e, List.drop_succ_cons]
      exact skip_head r
    · have e : skipN (c :: r) = 0 := by unfold skipN; rw [List.takeWhile_cons, if_neg h]; rfl
      right; rw [e]; simpa using h
theorem skipN_le (l : List UInt8) : skipN l ≤ l.length := (List.takeWhile_prefix _).length_le

/-- Tokens so far, and what is still to come. -/
def glue (ts : List Tok) (y : List Tok × Int × Int) : List Tok × Int × Int := if y.2.2 = 0 then (ts ++ y.1, y.2.1, 0) else y
theorem glue_nil (y : List Tok × Int × Int) : glue [] y = y := by
  unfold glue
  split
  · rename_i h; exact Prod.ext rfl (Prod.ext rfl h.symm)
  · rfl
theorem glue_end (ts : List Tok) (a : Int) : glue ts (scan1 [] a) = (ts ++ [⟨0, [], V0, a⟩], 0, 0) := by rw [scan1_nil]; rfl
theorem glue_bad {ts : List Tok} {r : List UInt8} {a : Int} {t : Tok} {e : Int} (hr : r ≠ []) (hw : whtB (r.getD 0 0) = false) (h : nextL r a = (t, e)) (he : e ≠ 0) : glue ts (scan1 r a) = ([], a, e) := by
  rw [scan1_bad hr hw (by rw [h]; exact he), h]
  unfold glue; rw [if_neg he]
theorem glue_tok {ts : List Tok} {r : List UInt8} {a : Int} {t : Tok} (hr : r ≠ []) (hw : whtB (r.getD 0 0) = false) (h : nextL r a = (t, 0)) : glue ts (scan1 r a) = glue (ts ++ [t]) (scan1 (r.drop t.t.length) (a + t.t.length)) := by
  rw [scan1_tok hr hw h]
  unfold glue
  by_cases h0 : (scan1 (r.drop t.t.length) (a + t.t.length)).2.2 = 0
  · rw [if_pos h0]; simp only [if_true]; rw [if_pos h0]
    obtain ⟨_, hq⟩ := scan_ok (l := r.drop t.t.length) (a := a + t.t.length) (ts := (scan1 (r.drop t.t.length) (a + t.t.length)).1) (q := (scan1 (r.drop t.t.length) (a + t.t.length)).2.1) (Prod.ext rfl (Prod.ext rfl h0))
    rw [hq]; simp
  · rw [if_neg h0, if_neg h0, if_neg h0]

theorem infoT : (Tryd.prog.info? 37).map (fun i => (i.zero, i.size, i.bytes)) = some (some (.agg zTok), 6, 64) := by kernel_rfl
theorem flatT_snoc {w : World} {B : Nat} {v : Value} {l : List Tok} {t : Tok} (h : w.ownsRow B 37 6 v (l.length + 1) (flatT l ++ [.int .i64 t.k, .string ⟨t.t.toArray⟩, .int .i64 t.v.k, .int .i64 t.v.n, .string t.v.s, .int .i64 t.a])) : w.ownsRow B 37 6 v (l ++ [t]).length (flatT (l ++ [t])) := by
  rw [List.length_append, flatT_append]; exact h

set_option maxRecDepth 100000 in
set_option maxHeartbeats 2000000 in
theorem lex_scan (s : ByteArray) (w : World) (hE : EnvL w) (hs : s.size ≤ 100000) {x : List Tok × Int × Int} (hx : scanL s.data.toList = x) :
    Calls Tryd.prog 11 #[.string s] w (RetS w x) := by
  obtain ⟨i0, hi, hz0, hz1, hz2⟩ := info_parts infoT
  have hll : s.data.toList.length = s.size := by simp
  unfold scanL at hx
  rw [hll] at hx
  by_cases hbig : 65536 < s.size
  · rw [if_pos hbig] at hx
    subst hx
    clear hE hll
    go_enter Tryd.func11, Tryd.ntmps11
    go_wp2
    go_ret3
    exact ⟨none, 0, rfl, fun h => absurd h (by simp), by simp, Below.refl _ _⟩
  · rw [if_neg hbig] at hx
    have HX : Hid (glue [] (scan1 (s.data.toList.drop 0) ((0 : Nat) : Int)) = x) := hid (by rw [glue_nil]; exact hx)
    clear hx hll
    go_enter Tryd.func11, Tryd.ntmps11
    go_wp2
    go_loopw [5, 6] (fun v i wr => ∃ (a : Nat) (ts : List Tok), a ≤ s.size ∧ i = .int .i64 a ∧ wr.ownsRow w.heap.size 37 6 v ts.length (flatT ts) ∧ ts.length ≤ a ∧ Hid (glue ts (scan1 (s.data.toList.drop a) (a : Int)) = x) ∧ Below w.heap.size w wr) (fun _ i _ => s.size - (intOf i).toNat)
    case atStart => exact ⟨0, [], by omega, rfl, World.ownsRow_nil _ _ _ _, by simp, HX, Below.refl _ _⟩
    case round =>
      obtain ⟨a, ts, ha, rfl, hown, hlen, HK, hbel⟩ := hrel
      clear HX
      obtain ⟨b, hb⟩ : ∃ b, a + skipN (s.data.toList.drop a) = b := ⟨_, rfl⟩
      have H1 := fun W => hid (lex_skip s a W ha hs hb)
      have hsk := scan1_skip (s.data.toList.drop a) (a : Int)
      have hhd := skip_head (s.data.toList.drop a)
      have hsl := skipN_le (s.data.toList.drop a)
      have hll : s.data.toList.length = s.size := by simp
      rw [List.length_drop, hll] at hsl
      rw [List.drop_drop, hb] at hsk hhd
      have e1 : (a : Int) + (skipN (s.data.toList.drop a) : Int) = (b : Int) := by omega
      rw [e1] at hsk
      rw [hsk] at HK
      have hab : a ≤ b := by omega
      have hbs : b ≤ s.size := by omega
      clear hsk hb hsl hll e1
      by_cases hend : b = s.size
      · subst hend
        have e2 : s.data.toList.drop s.size = [] := List.drop_eq_nil_of_le (by simp)
        rw [e2, glue_end] at HK
        obtain rfl := HK.out
        clear HK hhd e2 hE
        go_wp2_with fail
        refine (H1 _).out.mono ?_
        rintro e w1 ⟨rfl, rfl⟩
        clear H1
        go_wp2_with (at_builtin; refine wpList_append_new Tryd.underlying23 hi hz0 hz1 hz2 rfl (by decide) (by decide) rfl rfl rfl hown rfl rfl rfl (by omega) hbel.size ?_; intro v2 w2 hown2 hg2; obtain ⟨A2, c2, rfl, hT2, hc2⟩ := own_toks (flatT_snoc (t := ⟨0, [], V0, s.size⟩) hown2))
        go_ret3
        exact ⟨A2, c2, by simp, hT2, hc2, hbel.trans (grown_below hown hg2 hbel.size)⟩
      · have hlt : b < s.size := by omega
        have bne : ((b : Int) == (s.size : Int)) = false := by simp; omega
        have hr : s.data.toList.drop b ≠ [] := by
          intro e
          have := congrArg List.length e
          simp at this; omega
        have hw := hhd.resolve_left hr
        obtain ⟨⟨t, q⟩, hn⟩ : ∃ p, nextL (s.data.toList.drop b) b = p := ⟨_, rfl⟩
        have H2 := fun W (h : Below w.heap.size w W) => hid (lex_next s b W (hE.below h) hlt hs hn)
        by_cases hq : q = 0
        · subst hq
          rw [glue_tok hr hw hn, List.drop_drop] at HK
          have hpre := (nextL_ok hr hn).1
          have hne := (nextL_ok hr hn).2.1
          have hpl := hpre.length_le
          have hpos := List.length_pos_iff.2 hne
          have hll : s.data.toList.length = s.size := by simp
          rw [List.length_drop, hll] at hpl
          have HK2 : Hid (glue (ts ++ [t]) (scan1 (s.data.toList.drop (b + t.t.length)) ((b + t.t.length : Nat) : Int)) = x) := HK
          clear HK hr hw hn hhd hE hll hpre hne hend
          go_wp2_with fail
          refine (H1 _).out.mono ?_
          rintro e w1 ⟨rfl, rfl⟩
          clear H1
          go_wp2_with fail
          refine (H2 _ hbel).out.mono ?_
          rintro e w1 ⟨rfl, b1⟩
          have hbel1 := hbel.trans (b1.mono hbel.size)
          have hown1 := own_below hown b1
          clear H2 b1 hown
          have hbelA := hbel1.trans ((below_one w1 (.cells #[.int .i64 t.k, .string ⟨t.t.toArray⟩, .int .i64 t.v.k, .int .i64 t.v.n, .string t.v.s, .int .i64 t.a] 37)).mono hbel1.size)
          have hownA := own_below hown1 (below_one w1 (.cells #[.int .i64 t.k, .string ⟨t.t.toArray⟩, .int .i64 t.v.k, .int .i64 t.v.n, .string t.v.s, .int .i64 t.a] 37))
          go_wp2_with (at_builtin; refine wpList_append_new2 Tryd.underlying23 hi hz0 hz1 hz2 rfl (by decide) (by decide) rfl rfl rfl hownA rfl (by simp) rfl rfl (by omega) hbelA.size ?_; intro v2 w2 hown2 hg2; have hzt := (hg2.block w1.heap.size (by simp) (fun e => by have := (hown1.lt _ e.symm).2; omega)).trans (heap_alloc_new w1 _); have c1 := cell_res hzt 1)
          go_roundw
          case rel => exact ⟨b + t.t.length, ts ++ [t], by omega, by go_num, flatT_snoc hown2, by simp; omega, HK2, hbelA.trans (grown_below hownA hg2 hbelA.size)⟩
          case measure => simp [intOf]; omega
        · rw [glue_bad hr hw hn hq] at HK
          obtain rfl := HK.out
          have bq : (q != 0) = true := by simpa using hq
          clear HK hr hw hn hhd hE hq hend
          go_wp2_with fail
          refine (H1 _).out.mono ?_
          rintro e w1 ⟨rfl, rfl⟩
          clear H1
          go_wp2_with fail
          refine (H2 _ hbel).out.mono ?_
          rintro e w1 ⟨rfl, b1⟩
          have hbel1 := hbel.trans (b1.mono hbel.size)
          have hbelA := hbel1.trans ((below_one w1 (.cells #[.int .i64 t.k, .string ⟨t.t.toArray⟩, .int .i64 t.v.k, .int .i64 t.v.n, .string t.v.s, .int .i64 t.a] 37)).mono hbel1.size)
          clear H2 b1 hown
          go_wp2
          go_ret3
          exact ⟨none, 0, rfl, fun h => absurd h (by simp), by simp, hbelA⟩
end Go.Proofs.YtemihmehppbgmaaDoor
