/-
  PLAIN: tokens: their offsets' bounds; two texts joined, token by token.
-/
import Derived.Test.YtemihmehppbgmaaDoorLex5
namespace Go.Proofs.YtemihmehppbgmaaDoor

theorem Sc.bounds {l : List UInt8} {a : Int} {ts : List Tok} (h : Sc l a ts) : ∀ t ∈ ts, a ≤ t.a ∧ t.a ≤ a + l.length := by
  induction h with
  | nil a => intro t ht; obtain rfl : t = _ := by simpa using ht
             simp
  | white h hs ih =>
    intro t ht
    have := ih t ht
    simp only [List.length_cons]; omega
  | @tok r a t ts hr hw h hs ih =>
    intro u hu
    obtain ⟨hp, _, ha, _⟩ := nextL_ok hr h
    have hle := hp.length_le
    rcases List.mem_cons.1 hu with rfl | hu
    · omega
    · have := ih u hu
      rw [List.length_drop] at this
      omega

theorem scanL_join {s u : List UInt8} {ts us : List Tok} {q q' : Int} (h : scanL s = (ts, q, 0)) (h' : scanL u = (us, q', 0)) (hl : s.length + u.length ≤ 1000) :
    scanL (s ++ 10 :: u) = (ts.dropLast ++ us.map (Tok.sh (s.length + 1)), 0, 0) := by
  refine scanL_sc (by simp; omega) (Sc.join (by decide) (scanL_ok h).1 ?_)
  have := (scanL_ok h').1.shift ((s.length : Int) + 1)
  rw [show (0 : Int) + (s.length : Int) + 1 = 0 + ((s.length : Int) + 1) by omega]
  exact this

theorem join_nth {ts us : List Tok} {n : Nat} (hn : ts.length = n + 1) (d : Int) (k : Nat) (h : k < (ts.dropLast ++ us).length) (h' : k < (ts.dropLast ++ us.map (Tok.sh d)).length) :
    ∃ x : Tok, (ts.dropLast ++ us)[k] = x ∧ (ts.dropLast ++ us.map (Tok.sh d))[k] = ⟨x.k, x.t, x.v, if n ≤ k then x.a + d else x.a⟩ ∧ (x ∈ ts ∨ x ∈ us) := by
  have hd : ts.dropLast.length = n := by rw [List.length_dropLast]; omega
  refine ⟨_, rfl, ?_, ?_⟩
  · by_cases hk : n ≤ k
    · rw [if_pos hk, List.getElem_append_right (by omega), List.getElem_append_right (by omega), List.getElem_map]; rfl
    · rw [if_neg hk, List.getElem_append_left (by omega), List.getElem_append_left (by omega)]
  · have := List.getElem_mem h
    rcases List.mem_append.1 this with h | h
    · exact .inl (List.dropLast_subset _ h)
    · exact .inr h
theorem ok_ne {l : List UInt8} {ts : List Tok} {q : Int} (h : scanL l = (ts, q, 0)) : ∃ n, ts.length = n + 1 ∧ n ≤ l.length := by
  have h1 := (scanL_ok h).1
  have h2 := List.length_pos_iff.2 h1.ne
  have h3 := h1.head
  exact ⟨ts.length - 1, by omega, by omega⟩
end Go.Proofs.YtemihmehppbgmaaDoor
