/-
  PLAIN: tokens: words; the examples of chapter 18.
-/
import Derived.Test.YtemihmehppbgmaaDoorLex4
namespace Go.Proofs.YtemihmehppbgmaaDoor

def scanL (l : List UInt8) : List Tok × Int × Int := if 65536 < l.length then ([], 0, 13) else scan1 l 0
theorem scanL_sc {l : List UInt8} {ts : List Tok} (hl : l.length ≤ 65536) (h : Sc l 0 ts) : scanL l = (ts, 0, 0) := by
  unfold scanL; rw [if_neg (by omega), sc_scan h]
theorem scanL_ok {l : List UInt8} {ts : List Tok} {q : Int} (h : scanL l = (ts, q, 0)) : Sc l 0 ts ∧ q = 0 ∧ l.length ≤ 65536 := by
  unfold scanL at h
  split at h
  · injection h with _ h2; injection h2 with _ h3; exact absurd h3 (by decide)
  · obtain ⟨h1, h2⟩ := scan_ok h
    exact ⟨h1, h2, by omega⟩
theorem scanL_err {l : List UInt8} {ts : List Tok} {q e : Int} (h : scanL l = (ts, q, e)) (he : e ≠ 0) : ts = [] := by
  unfold scanL at h
  split at h
  · injection h with h1 _; exact h1.symm
  · exact scan_err h he

/-- A word of letters, digits and underscores up to the end. -/
theorem next_word {w : List UInt8} (hw : ∀ c ∈ w, wrdB c = true) (hl : letB (w.getD 0 0) = true) (a : Int) (u : List UInt8) (hu : u = [] ∨ ∃ c u', u = c :: u' ∧ wrdB c = false) (hne : w ≠ []) :
    nextL (w ++ u) a = if keyL7.contains w = true then (⟨5, w, V0, a⟩, 0) else if 16 < w.length then (T0, 7) else (⟨1, w, V0, a⟩, 0) := by
  have e : wordLen (w ++ u) = w.length := by
    rcases hu with rfl | ⟨c, u', rfl, hc⟩
    · rw [List.append_nil]; exact wordLen_whole hw
    · exact wordLen_app hw hc
  unfold nextL
  rw [getD0_app hne, if_pos hl]
  unfold wordTok
  rw [e, List.take_left]
theorem let_not_wht {c : UInt8} (h : letB c = true) : whtB c = false := by
  cases hw : whtB c
  · rfl
  · have := (wht_not_wrd hw).2.2
    rw [h] at this
    exact absurd this (by decide)
theorem sc_word {w : List UInt8} (hw : ∀ c ∈ w, wrdB c = true) (hl : letB (w.getD 0 0) = true) (hne : w ≠ []) (k : Int) (hk : (if keyL7.contains w = true then ((⟨5, w, V0, 0⟩ : Tok), (0 : Int)) else if 16 < w.length then (T0, 7) else (⟨1, w, V0, 0⟩, 0)) = (⟨k, w, V0, 0⟩, 0)) :
    Sc w 0 [⟨k, w, V0, 0⟩, ⟨0, [], V0, w.length⟩] := by
  refine Sc.tok hne (let_not_wht hl) (t := ⟨k, w, V0, 0⟩) ?_ ?_
  · have := next_word hw hl 0 [] (.inl rfl) hne
    rw [List.append_nil] at this
    rw [this, hk]
  · simp only [List.drop_length]
    rw [Int.zero_add]
    exact Sc.nil _

theorem keys_words : ∀ k ∈ keyL7, (∀ c ∈ k, wrdB c = true) ∧ letB (k.getD 0 0) = true ∧ k ≠ [] ∧ k.length ≤ 5 ∧ keyL7.contains k = true ∧ keyL7.contains (k ++ [120]) = false := by decide
theorem scan_key {k : List UInt8} (hk : k ∈ keyL7) : scanL k = ([⟨5, k, V0, 0⟩, ⟨0, [], V0, k.length⟩], 0, 0) := by
  obtain ⟨h1, h2, h3, h4, h5, _⟩ := keys_words k hk
  exact scanL_sc (by omega) (sc_word h1 h2 h3 5 (by rw [if_pos h5]))
theorem scan_keyx {k : List UInt8} (hk : k ∈ keyL7) : scanL (k ++ [120]) = ([⟨1, k ++ [120], V0, 0⟩, ⟨0, [], V0, (k ++ [120]).length⟩], 0, 0) := by
  obtain ⟨h1, h2, h3, h4, _, h6⟩ := keys_words k hk
  refine scanL_sc (by simp; omega) (sc_word ?_ ?_ (by simp) 1 ?_)
  · intro c hc
    rcases List.mem_append.1 hc with hc | hc
    · exact h1 c hc
    · obtain rfl : c = 120 := by simpa using hc
      decide
  · rw [getD0_app h3]; exact h2
  · rw [if_neg (by rw [h6]; decide), if_neg (by simp; omega)]

/-- The word of LexerWords: an a, n times b, a blank behind it. -/
theorem ab_words (n : Nat) : (∀ c ∈ ((97 : UInt8) :: List.replicate n 98), wrdB c = true) ∧ keyL7.contains ((97 : UInt8) :: List.replicate n 98) = false := by
  constructor
  · intro c hc
    rcases List.mem_cons.1 hc with rfl | hc
    · decide
    · rw [(List.mem_replicate.1 hc).2]; decide
  · rw [Bool.eq_false_iff]
    intro h
    rw [List.contains_iff_mem] at h
    have : ∀ k ∈ keyL7, k.getD 0 0 ≠ 97 := by decide
    exact this _ h rfl
theorem scan_ab (n : Nat) (hn : n ≤ 200) : scanL (97 :: (List.replicate n 98 ++ [32])) = if 15 < n then ([], 0, 7) else ([⟨1, 97 :: List.replicate n 98, V0, 0⟩, ⟨0, [], V0, n + 2⟩], 0, 0) := by
  obtain ⟨h1, h2⟩ := ab_words n
  have hnx := next_word h1 (by rfl) 0 [32] (.inr ⟨32, [], rfl, by decide⟩) (by simp)
  rw [h2, if_neg (by decide)] at hnx
  have e : ((97 : UInt8) :: (List.replicate n 98 ++ [32])) = (97 :: List.replicate n 98) ++ [32] := rfl
  by_cases h : 15 < n
  · rw [if_pos (by simp; omega)] at hnx
    rw [if_pos h]
    unfold scanL
    rw [if_neg (by simp; omega), e, scan1_bad (by simp) (by simp [whtB]) (by rw [hnx]; decide), hnx]
  · rw [if_neg (by simp; omega)] at hnx
    rw [if_neg h, e]
    refine scanL_sc (by simp; omega) (Sc.tok (by simp) (by simp [whtB]) hnx ?_)
    simp only [List.drop_left]
    refine Sc.white (by decide) ?_
    have : (0 : Int) + ((97 :: List.replicate n (98 : UInt8)).length : Int) + 1 = n + 2 := by simp; omega
    rw [this]
    exact Sc.nil _

/-! ### The examples -/
def exL : List UInt8 := [97, 110, 115, 40, 120, 41, 32, 58, 45, 32, 114, 40, 120, 44, 45, 53, 41, 44, 32, 120, 32, 33, 61, 32, 34, 97, 34]
def exToks : List Tok := [⟨1, [97, 110, 115], V0, 0⟩, ⟨4, [40], V0, 3⟩, ⟨1, [120], V0, 4⟩, ⟨4, [41], V0, 5⟩, ⟨4, [58, 45], V0, 7⟩, ⟨1, [114], V0, 10⟩, ⟨4, [40], V0, 11⟩, ⟨1, [120], V0, 12⟩, ⟨4, [44], V0, 13⟩, ⟨2, [45, 53], ⟨1, -5, ⟨#[]⟩⟩, 14⟩, ⟨4, [41], V0, 16⟩, ⟨4, [44], V0, 17⟩, ⟨1, [120], V0, 19⟩, ⟨4, [33, 61], V0, 21⟩, ⟨3, [34, 97, 34], strV [97], 24⟩, ⟨0, [], V0, 27⟩]
theorem ex_m5 : parseL [45, 53] = (⟨1, -5, ⟨#[]⟩⟩, 0) := by
  have h : textL ⟨1, -5, ⟨#[]⟩⟩ = [45, 53] := by
    rw [textL_int (by decide +kernel) rfl]
    show Lib.itoa (-5) = _
    unfold Lib.itoa
    rw [if_pos (by decide)]
    show 45 :: Lib.decDigits 5 = _
    rw [Lib.decDigits_one (by decide)]; rfl
  rw [← h]
  exact parse_text (by decide +kernel) ⟨by decide, by decide⟩
theorem ex_a : parseL [34, 97, 34] = (strV [97], 0) := by
  have h : textL (strV [97]) = [34, 97, 34] := by
    rw [textL_str (by decide +kernel) (by decide)]; rfl
  rw [← h]
  exact parse_text (by decide +kernel) ⟨by decide, by decide⟩
theorem tok_step {r : List UInt8} {a : Int} {t : Tok} {ts : List Tok} {r' : List UInt8} {b : Int} (hr : r ≠ []) (hw : whtB (r.getD 0 0) = false) (h : nextL r a = (t, 0)) (h1 : r.drop t.t.length = r') (h2 : a + t.t.length = b) (hs : Sc r' b ts) : Sc r a (t :: ts) :=
  Sc.tok hr hw h (by rw [h1, h2]; exact hs)
theorem lit_of {k : Int} {x : List UInt8} {v : V} (h : parseL x = (v, 0)) (a : Int) : litTok k x a = (⟨k, x, v, a⟩, 0) := by
  unfold litTok; rw [h, if_pos rfl]
theorem ex_scan : scanL exL = (exToks, 0, 0) := by
  refine scanL_sc (by decide) ?_
  unfold exL exToks
  refine tok_step (by decide) (by decide) (by rfl) rfl rfl ?_
  refine tok_step (by decide) (by decide) (by rfl) rfl rfl ?_
  refine tok_step (by decide) (by decide) (by rfl) rfl rfl ?_
  refine tok_step (by decide) (by decide) (by rfl) rfl rfl ?_
  refine Sc.white (by decide) ?_
  refine tok_step (by decide) (by decide) (by rfl) rfl rfl ?_
  refine Sc.white (by decide) ?_
  refine tok_step (by decide) (by decide) (by rfl) rfl rfl ?_
  refine tok_step (by decide) (by decide) (by rfl) rfl rfl ?_
  refine tok_step (by decide) (by decide) (by rfl) rfl rfl ?_
  refine tok_step (by decide) (by decide) (by rfl) rfl rfl ?_
  refine tok_step (by decide) (by decide) (show nextL _ _ = _ from lit_of ex_m5 _) rfl rfl ?_
  refine tok_step (by decide) (by decide) (by rfl) rfl rfl ?_
  refine tok_step (by decide) (by decide) (by rfl) rfl rfl ?_
  refine Sc.white (by decide) ?_
  refine tok_step (by decide) (by decide) (by rfl) rfl rfl ?_
  refine Sc.white (by decide) ?_
  refine tok_step (by decide) (by decide) (by rfl) rfl rfl ?_
  refine Sc.white (by decide) ?_
  refine tok_step (by decide) (by decide) (show nextL _ _ = _ from lit_of ex_a _) rfl rfl ?_
  exact Sc.nil _
theorem ex_bad : scanL [120, 32, 45, 32, 49] = ([], 2, 15) := by
  unfold scanL
  rw [if_neg (by decide), scan1_tok (t := ⟨1, [120], V0, 0⟩) (by decide) (by decide) (by rfl)]
  have e : scan1 (([120, 32, 45, 32, 49] : List UInt8).drop ([120] : List UInt8).length) (0 + (([120] : List UInt8).length : Int)) = ([], 2, 15) := by
    show scan1 [32, 45, 32, 49] 1 = _
    rw [scan1_white (by decide), scan1_bad (by decide) (by decide) (by decide)]
    rfl
  simp only at e ⊢
  rw [e]
  rfl
end Go.Proofs.YtemihmehppbgmaaDoor
