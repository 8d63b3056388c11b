/-
  PLAIN: tokens joined again with gaps, token by token.
-/
import Derived.Test.YtemihmehppbgmaaDoorLex6
namespace Go.Proofs.YtemihmehppbgmaaDoor

/-- The gap that a byte chooses. -/
def gapL (m : Nat) : List UInt8 := if m = 0 then [32] else if m = 1 then [10] else if m = 2 then [9, 32, 13] else [32, 32]
def gapsL (gl : List UInt8) : List (List UInt8) := gl.map fun g => gapL (g.toNat % 4)
theorem gapL_ok (m : Nat) : gapOk (gapL m) ∧ (gapL m).length ≤ 3 := by
  unfold gapL gapOk
  split
  · decide
  · split
    · decide
    · split <;> decide
theorem gapsL_ok (gl : List UInt8) : ∀ g ∈ gapsL gl, gapOk g ∧ g.length ≤ 3 := by
  intro g hg
  obtain ⟨x, _, rfl⟩ := List.mem_map.1 hg
  exact gapL_ok _
theorem gapsL_in (gl : List UInt8) (k : Nat) (h : k < gl.length) : (gapsL gl).getD k [32] = gapL (gl[k].toNat % 4) := by
  simp [gapsL, List.getD, h]
theorem gapsL_out (gl : List UInt8) (k : Nat) (h : ¬ k < gl.length) : (gapsL gl).getD k [32] = [32] := by
  have : gl.length ≤ k := by omega
  simp [gapsL, List.getD, this]

theorem joinT_nil (gs : List (List UInt8)) : joinT [] gs = [] := by cases gs <;> rfl
theorem joinT_snoc : ∀ (ts : List Tok) (gs : List (List UInt8)) (k : Nat) (h : k < ts.length), joinT (ts.take (k + 1)) gs = joinT (ts.take k) gs ++ (ts[k].t ++ gs.getD k [32])
  | [], gs, k, h => by simp at h
  | t :: ts, [], 0, _ => by simp [joinT]
  | t :: ts, g :: gs, 0, _ => by simp [joinT, joinT_nil]
  | t :: ts, [], k + 1, h => by
    have := joinT_snoc ts [] k (by simpa using h)
    rw [List.take_succ_cons, List.take_succ_cons, joinT, joinT, this]
    simp
  | t :: ts, g :: gs, k + 1, h => by
    have := joinT_snoc ts gs k (by simpa using h)
    rw [List.take_succ_cons, List.take_succ_cons, joinT, joinT, this]
    simp [List.append_assoc]

theorem Sc.sum {l : List UInt8} {a : Int} {ts : List Tok} (h : Sc l a ts) : (ts.map fun t => t.t.length).sum ≤ l.length := by
  induction h with
  | nil a => simp
  | white h hs ih => simp only [List.length_cons]; omega
  | @tok r a t ts hr hw h hs ih =>
    obtain ⟨hp, _⟩ := nextL_ok hr h
    have hle := hp.length_le
    rw [List.length_drop] at ih
    simp only [List.map_cons, List.sum_cons]; omega
theorem joinT_len : ∀ (ts : List Tok) (gs : List (List UInt8)), (∀ g ∈ gs, g.length ≤ 3) → (joinT ts gs).length ≤ (ts.map fun t => t.t.length).sum + 3 * ts.length
  | [], gs, _ => by rw [joinT_nil]; simp
  | t :: ts, [], h => by
    have := joinT_len ts [] h
    simp only [joinT, List.length_append, List.length_cons, List.map_cons, List.sum_cons]; omega
  | t :: ts, g :: gs, h => by
    have := joinT_len ts gs fun x hx => h x (by simp [hx])
    have := h g (by simp)
    simp only [joinT, List.length_append, List.length_cons, List.map_cons, List.sum_cons]; omega
theorem tok_le {l : List UInt8} {a : Int} {ts : List Tok} (h : Sc l a ts) {k : Nat} (hk : k < ts.length) : ts[k].t.length ≤ l.length := by
  have h1 := h.sum
  have h2 : ∀ (ts : List Tok) (k : Nat) (hk : k < ts.length), ts[k].t.length ≤ (ts.map fun t => t.t.length).sum := by
    intro ts
    induction ts with
    | nil => intro k hk; simp at hk
    | cons t ts ih =>
      intro k hk
      match k with
      | 0 => simp
      | k + 1 =>
        have := ih k (by simpa using hk)
        simp only [List.getElem_cons_succ, List.map_cons, List.sum_cons]; omega
  have := h2 ts k hk
  omega

/-- The tokens' texts with gaps, scanned again. -/
theorem scanL_back {l : List UInt8} {ts : List Tok} {q : Int} (h : scanL l = (ts, q, 0)) (hl : l.length ≤ 1000) (gl : List UInt8) :
    ∃ js, scanL (joinT ts (gapsL gl)) = (js, 0, 0) ∧ js.length = ts.length ∧ ∀ k (h : k < ts.length) (h' : k < js.length), ∃ (x : Tok) (a : Int), ts[k] = x ∧ js[k] = ⟨x.k, x.t, x.v, a⟩ := by
  have hs := (scanL_ok h).1
  obtain ⟨us, h1, h2⟩ := hs.back (gapsL gl) 0 fun g hg => (gapsL_ok gl g hg).1
  have hlen : us.length = ts.length := by
    have := congrArg List.length h2
    simpa using this
  have hj := joinT_len ts (gapsL gl) fun g hg => (gapsL_ok gl g hg).2
  have hsum := hs.sum
  have hhd := hs.head
  refine ⟨us, scanL_sc (by omega) h1, hlen, fun k hk hk' => ⟨_, us[k].a, rfl, ?_⟩⟩
  have e : (us.map Tok.bare)[k]? = (ts.map Tok.bare)[k]? := by rw [h2]
  rw [List.getElem?_map, List.getElem?_map, List.getElem?_eq_getElem hk, List.getElem?_eq_getElem hk'] at e
  simp only [Option.map_some, Option.some.injEq, Tok.bare, Prod.mk.injEq] at e
  obtain ⟨e1, e2, e3⟩ := e
  rw [← e1, ← e2, ← e3]
end Go.Proofs.YtemihmehppbgmaaDoor
