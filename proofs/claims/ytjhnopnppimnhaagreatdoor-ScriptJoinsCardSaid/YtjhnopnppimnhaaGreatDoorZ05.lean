/-
  PARTS of a claim, merged by segs.py: PsL, PsN, Lex5, Lex6, Lex7, PgP.
-/
import Derived.Test.YtjhnopnppimnhaaGreatDoorZ04
import Derived.Test.YtjhnopnppimnhaaGreatDoorZ03
namespace Go.Proofs.YtjhnopnppimnhaaGreatDoor

/-! ### PsL -/
section

theorem Sc.tail {l : List UInt8} {a : Int} {ts : List Tok} (h : Sc l a ts) : ∃ pre b, ts = pre ++ [⟨0, [], V0, b⟩] := by
  induction h with
  | nil a => exact ⟨[], a, rfl⟩
  | white h hs ih => exact ih
  | tok hr hw h hs ih =>
    obtain ⟨pre, b, e⟩ := ih
    exact ⟨_ :: pre, b, by rw [e]; rfl⟩
theorem tkL_last {pre : List Tok} {t : Tok} {i : Nat} (hi : pre.length ≤ i) : tkL (pre ++ [t]) i = t := by
  unfold tkL
  have : min i ((pre ++ [t]).length - 1) = pre.length := by simp; omega
  rw [this]
  simp [List.getD]
theorem Sc.ended {l : List UInt8} {a : Int} {ts : List Tok} (h : Sc l a ts) : Ended ts := by
  obtain ⟨pre, b, rfl⟩ := h.tail
  refine ⟨by simp, ?_⟩
  rw [tkL_last (by simp)]
theorem nextL_lit {r : List UInt8} {a : Int} {t : Tok} (h : nextL r a = (t, 0)) (hk : t.k = 2 ∨ t.k = 3) : parseL t.t = (t.v, 0) := by
  have lit : ∀ {k : Int} {x : List UInt8}, litTok k x a = (t, 0) → parseL t.t = (t.v, 0) := fun {k x} h => by
    unfold litTok at h
    split at h
    · rename_i h0
      injection h with h1 _
      subst h1
      show parseL x = ((parseL x).1, 0)
      rw [← h0]
    · rename_i h0
      injection h with _ h2
      exact absurd h2 h0
  unfold nextL at h
  split at h
  · unfold wordTok at h
    split at h
    · injection h with h1 _; subst h1; simp at hk
    · split at h
      · injection h with _ h2; exact absurd h2 (by decide)
      · injection h with h1 _; subst h1; simp at hk
  · split at h
    · exact lit h
    · split at h
      · split at h
        · injection h with _ h2; exact absurd h2 (by decide)
        · exact lit h
      · unfold symTok at h
        split at h
        · injection h with h1 _; subst h1; simp at hk
        · injection h with _ h2; exact absurd h2 (by decide)
theorem Sc.lits {l : List UInt8} {a : Int} {ts : List Tok} (h : Sc l a ts) : ∀ t ∈ ts, (t.k = 2 ∨ t.k = 3) → parseL t.t = (t.v, 0) := by
  induction h with
  | nil a =>
    intro t ht hk
    rw [List.mem_singleton] at ht
    subst ht
    simp at hk
  | white h hs ih => exact ih
  | tok hr hw h hs ih =>
    intro t ht hk
    rcases List.mem_cons.1 ht with rfl | ht
    · exact nextL_lit h hk
    · exact ih t ht hk
theorem tkL_mem {l : List Tok} (h : Ended l) (i : Nat) : tkL l i ∈ l := by
  have hp := h.pos
  unfold tkL
  have hi : min i (l.length - 1) < l.length := by omega
  rw [List.getD_eq_getElem?_getD, List.getElem?_eq_getElem hi]
  exact List.getElem_mem hi
theorem tkL_at {l : List Tok} {i : Nat} (hi : i < l.length) : tkL l i = l[i] := by
  unfold tkL
  rw [show min i (l.length - 1) = i by omega, List.getD_eq_getElem?_getD, List.getElem?_eq_getElem hi]
  rfl
/-- The tokens with three more ends. -/
def ext3 (l : List Tok) : List Tok := l ++ [tkL l l.length, tkL l l.length, tkL l l.length]
theorem ext3_len (l : List Tok) : (ext3 l).length = l.length + 3 := by simp [ext3]
theorem ext3_at {l : List Tok} (_h : Ended l) {i : Nat} (hi : i < (ext3 l).length) : (ext3 l)[i] = tkL l i := by
  have hl := ext3_len l
  by_cases c : i < l.length
  · simp only [ext3]
    rw [List.getElem_append_left c, tkL_at c]
  · have e : tkL l i = tkL l l.length := by unfold tkL; congr 1; omega
    rw [e]
    have : i = l.length ∨ i = l.length + 1 ∨ i = l.length + 2 := by omega
    rcases this with h | h | h
    · subst h; simp [ext3]
    · subst h; simp [ext3]
    · subst h; simp [ext3]
end

/-! ### PsN -/
section

section
variable {L : List Tok}
theorem termsS_nx (hE : Ended L) : ∀ {f i nx : Nat} {acc ts : List Trm}, termsS (tkL L) f i acc = .ok ts nx → i < nx ∧ nx < L.length
  | 0, i, nx, acc, ts, e => by cases e
  | f + 1, i, nx, acc, ts, e => by
    unfold termsS at e
    cases ht : termT (tkL L i) with
    | none => rw [ht] at e; cases e
    | some t =>
      rw [ht] at e
      simp only at e
      split at e
      · rename_i h
        injection e with _ e2
        have := hE.isT h
        omega
      · split at e
        · have := termsS_nx hE e; omega
        · cases e
theorem parenS_nx (hE : Ended L) {f i nx : Nat} {ts : List Trm} (e : parenS (tkL L) f i = .ok ts nx) : i < nx ∧ nx < L.length := by
  unfold parenS at e
  split at e
  · rename_i h
    injection e with _ e2
    have := hE.isT h
    omega
  · exact termsS_nx hE e
theorem itemS_nx (hE : Ended L) {n i nx : Nat} {r r' : Rul} (e : itemS (tkL L) n i r = .ok r' nx) : i < nx ∧ nx < L.length ∧ r'.atoms.length ≤ r.atoms.length + 1 ∧ r'.conds.length ≤ r.conds.length + 1 := by
  unfold itemS at e
  simp only at e
  obtain ⟨j, hj⟩ : ∃ j, (if isT (tkL L i) sNot = true then i + 1 else i) = j := ⟨_, rfl⟩
  rw [hj] at e
  have hij : i ≤ j := by rw [← hj]; split <;> omega
  split at e
  · cases e
  · split at e
    · cases hp : parenS (tkL L) n (j + 2) with
      | bad x => rw [hp] at e; cases e
      | ok ts nx2 =>
        rw [hp] at e
        injection e with e1 e2
        subst e1
        have := parenS_nx hE hp
        refine ⟨by omega, by omega, by simp, by show r.conds.length ≤ _; omega⟩
    · split at e
      · cases e
      · cases ho : opT (tkL L (j + 1)) with
        | none => rw [ho] at e; cases e
        | some o =>
          rw [ho] at e
          simp only at e
          cases hc : constT (tkL L (j + 2)) with
          | none => rw [hc] at e; cases e
          | some v =>
            rw [hc] at e
            injection e with e1 e2
            subst e1
            have := hE.con hc
            refine ⟨by omega, by omega, by show r.atoms.length ≤ _; omega, by simp⟩
theorem ruleS_nx (hE : Ended L) {n : Nat} : ∀ {f i nx : Nat} {r r' : Rul}, ruleG (tkL L) n f i r = .ok r' nx → i < nx ∧ nx < L.length
  | 0, i, nx, r, r', e => by cases e
  | f + 1, i, nx, r, r', e => by
    unfold ruleG at e
    cases hi : itemS (tkL L) n i r with
    | bad x => rw [hi] at e; cases e
    | ok r2 nx2 =>
      rw [hi] at e
      simp only at e
      have h2 := itemS_nx hE hi
      split at e
      · have := ruleS_nx hE e; omega
      · injection e with _ e2; omega
theorem namesS_nx (hE : Ended L) : ∀ {f i nx : Nat} {acc l : List Str}, namesS (tkL L) f i acc = .ok l nx → i < nx ∧ nx < L.length
  | 0, i, nx, acc, l, e => by cases e
  | f + 1, i, nx, acc, l, e => by
    unfold namesS at e
    split at e
    · cases e
    · rename_i hk
      have := hE.one (by simpa using hk)
      split at e
      · have := namesS_nx hE e; omega
      · injection e with _ e2; omega
theorem keysS_nx (hE : Ended L) : ∀ {f i nx : Nat} {acc l : List Ky}, keysS (tkL L) f i acc = .ok l nx → i < nx ∧ nx < L.length
  | 0, i, nx, acc, l, e => by cases e
  | f + 1, i, nx, acc, l, e => by
    unfold keysS at e
    split at e
    · cases e
    · rename_i hk
      have h1 := hE.one (i := i) (by simpa using hk)
      simp only at e
      obtain ⟨j, hj⟩ : ∃ j, (if isT (tkL L (i + 1)) sDesc = true then i + 2 else i + 1) = j := ⟨_, rfl⟩
      rw [hj] at e
      have hij : i < j ∧ j < L.length := by
        rw [← hj]
        split
        · rename_i h; have := hE.isT h; omega
        · omega
      split at e
      · have := keysS_nx hE e; omega
      · injection e with _ e2; omega
theorem aggS_nx (hE : Ended L) {i nx : Nat} {q q' : Qry} (e : aggG (tkL L) i q = .ok q' nx) : i < nx ∧ nx < L.length := by
  unfold aggG at e
  split at e
  · rename_i h
    injection e with _ e2
    have := hE.isT h
    omega
  · cases ha : aggT (tkL L i) with
    | none => rw [ha] at e; cases e
    | some a =>
      rw [ha] at e
      simp only at e
      split at e
      · cases e
      · rename_i hk
        injection e with _ e2
        have := hE.one (i := i + 1) (by simpa using hk)
        omega
theorem endS_nx (hE : Ended L) {i nx : Nat} {q q' : Qry} (e : endS (tkL L) i q = .ok q' nx) : i < nx ∧ nx < L.length := by
  unfold endS at e
  split at e
  · split at e
    · rename_i h
      injection e with _ e2
      have := hE.isT h
      omega
    · cases e
  · cases e
theorem semiS_nx (hE : Ended L) {i nx : Nat} {q q' : Qry} (e : semiS (tkL L) i q = .ok q' nx) : i < nx ∧ nx < L.length := by
  unfold semiS at e
  split at e
  · cases ha : aggG (tkL L) (i + 1) q with
    | bad x => rw [ha] at e; cases e
    | ok q2 nx2 =>
      rw [ha] at e
      have h1 := aggS_nx hE ha
      have h2 := endS_nx hE e
      omega
  · exact endS_nx hE e
theorem headS_nx (hE : Ended L) {n nx : Nat} {q : Qry} (e : headG (tkL L) n = .ok q nx) : 0 < nx ∧ nx < L.length := by
  unfold headG at e
  split at e
  · cases e
  · split at e
    · cases e
    · split at e
      · cases hn : namesS (tkL L) n 2 [] with
        | bad x => rw [hn] at e; cases e
        | ok h nx2 =>
          rw [hn] at e
          have h1 := namesS_nx hE hn
          have h2 := semiS_nx hE e
          omega
      · have h2 := semiS_nx hE e
        omega
end
end

/-! ### Lex5 -/
section

def scanL (l : List UInt8) : List Tok × Int × Int := if 65536 < l.length then ([], 0, 13) else scan1 l 0
theorem scanL_sc {l : List UInt8} {ts : List Tok} (hl : l.length ≤ 65536) (h : Sc l 0 ts) : scanL l = (ts, 0, 0) := by
  unfold scanL; rw [if_neg (by omega), sc_scan h]
theorem scanL_ok {l : List UInt8} {ts : List Tok} {q : Int} (h : scanL l = (ts, q, 0)) : Sc l 0 ts ∧ q = 0 ∧ l.length ≤ 65536 := by
  unfold scanL at h
  split at h
  · injection h with _ h2; injection h2 with _ h3; exact absurd h3 (by decide)
  · obtain ⟨h1, h2⟩ := scan_ok h
    exact ⟨h1, h2, by omega⟩
theorem scanL_err {l : List UInt8} {ts : List Tok} {q e : Int} (h : scanL l = (ts, q, e)) (he : e ≠ 0) : ts = [] := by
  unfold scanL at h
  split at h
  · injection h with h1 _; exact h1.symm
  · exact scan_err h he

/-- A word of letters, digits and underscores up to the end. -/
theorem next_word {w : List UInt8} (hw : ∀ c ∈ w, wrdB c = true) (hl : letB (w.getD 0 0) = true) (a : Int) (u : List UInt8) (hu : u = [] ∨ ∃ c u', u = c :: u' ∧ wrdB c = false) (hne : w ≠ []) :
    nextL (w ++ u) a = if keyL7.contains w = true then (⟨5, w, V0, a⟩, 0) else if 16 < w.length then (T0, 7) else (⟨1, w, V0, a⟩, 0) := by
  have e : wordLen (w ++ u) = w.length := by
    rcases hu with rfl | ⟨c, u', rfl, hc⟩
    · rw [List.append_nil]; exact wordLen_whole hw
    · exact wordLen_app hw hc
  unfold nextL
  rw [getD0_app hne, if_pos hl]
  unfold wordTok
  rw [e, List.take_left]
theorem let_not_wht {c : UInt8} (h : letB c = true) : whtB c = false := by
  cases hw : whtB c
  · rfl
  · have := (wht_not_wrd hw).2.2
    rw [h] at this
    exact absurd this (by decide)
theorem sc_word {w : List UInt8} (hw : ∀ c ∈ w, wrdB c = true) (hl : letB (w.getD 0 0) = true) (hne : w ≠ []) (k : Int) (hk : (if keyL7.contains w = true then ((⟨5, w, V0, 0⟩ : Tok), (0 : Int)) else if 16 < w.length then (T0, 7) else (⟨1, w, V0, 0⟩, 0)) = (⟨k, w, V0, 0⟩, 0)) :
    Sc w 0 [⟨k, w, V0, 0⟩, ⟨0, [], V0, w.length⟩] := by
  refine Sc.tok hne (let_not_wht hl) (t := ⟨k, w, V0, 0⟩) ?_ ?_
  · have := next_word hw hl 0 [] (.inl rfl) hne
    rw [List.append_nil] at this
    rw [this, hk]
  · simp only [List.drop_length]
    rw [Int.zero_add]
    exact Sc.nil _

theorem keys_words : ∀ k ∈ keyL7, (∀ c ∈ k, wrdB c = true) ∧ letB (k.getD 0 0) = true ∧ k ≠ [] ∧ k.length ≤ 5 ∧ keyL7.contains k = true ∧ keyL7.contains (k ++ [120]) = false := by decide
theorem scan_key {k : List UInt8} (hk : k ∈ keyL7) : scanL k = ([⟨5, k, V0, 0⟩, ⟨0, [], V0, k.length⟩], 0, 0) := by
  obtain ⟨h1, h2, h3, h4, h5, _⟩ := keys_words k hk
  exact scanL_sc (by omega) (sc_word h1 h2 h3 5 (by rw [if_pos h5]))
theorem scan_keyx {k : List UInt8} (hk : k ∈ keyL7) : scanL (k ++ [120]) = ([⟨1, k ++ [120], V0, 0⟩, ⟨0, [], V0, (k ++ [120]).length⟩], 0, 0) := by
  obtain ⟨h1, h2, h3, h4, _, h6⟩ := keys_words k hk
  refine scanL_sc (by simp; omega) (sc_word ?_ ?_ (by simp) 1 ?_)
  · intro c hc
    rcases List.mem_append.1 hc with hc | hc
    · exact h1 c hc
    · obtain rfl : c = 120 := by simpa using hc
      decide
  · rw [getD0_app h3]; exact h2
  · rw [if_neg (by rw [h6]; decide), if_neg (by simp; omega)]

/-- The word of LexerWords: an a, n times b, a blank behind it. -/
theorem ab_words (n : Nat) : (∀ c ∈ ((97 : UInt8) :: List.replicate n 98), wrdB c = true) ∧ keyL7.contains ((97 : UInt8) :: List.replicate n 98) = false := by
  constructor
  · intro c hc
    rcases List.mem_cons.1 hc with rfl | hc
    · decide
    · rw [(List.mem_replicate.1 hc).2]; decide
  · rw [Bool.eq_false_iff]
    intro h
    rw [List.contains_iff_mem] at h
    have : ∀ k ∈ keyL7, k.getD 0 0 ≠ 97 := by decide
    exact this _ h rfl
theorem scan_ab (n : Nat) (hn : n ≤ 200) : scanL (97 :: (List.replicate n 98 ++ [32])) = if 15 < n then ([], 0, 7) else ([⟨1, 97 :: List.replicate n 98, V0, 0⟩, ⟨0, [], V0, n + 2⟩], 0, 0) := by
  obtain ⟨h1, h2⟩ := ab_words n
  have hnx := next_word h1 (by rfl) 0 [32] (.inr ⟨32, [], rfl, by decide⟩) (by simp)
  rw [h2, if_neg (by decide)] at hnx
  have e : ((97 : UInt8) :: (List.replicate n 98 ++ [32])) = (97 :: List.replicate n 98) ++ [32] := rfl
  by_cases h : 15 < n
  · rw [if_pos (by simp; omega)] at hnx
    rw [if_pos h]
    unfold scanL
    rw [if_neg (by simp; omega), e, scan1_bad (by simp) (by simp [whtB]) (by rw [hnx]; decide), hnx]
  · rw [if_neg (by simp; omega)] at hnx
    rw [if_neg h, e]
    refine scanL_sc (by simp; omega) (Sc.tok (by simp) (by simp [whtB]) hnx ?_)
    simp only [List.drop_left]
    refine Sc.white (by decide) ?_
    have : (0 : Int) + ((97 :: List.replicate n (98 : UInt8)).length : Int) + 1 = n + 2 := by simp; omega
    rw [this]
    exact Sc.nil _

/-! ### The examples -/
def exL : List UInt8 := [97, 110, 115, 40, 120, 41, 32, 58, 45, 32, 114, 40, 120, 44, 45, 53, 41, 44, 32, 120, 32, 33, 61, 32, 34, 97, 34]
def exToks : List Tok := [⟨1, [97, 110, 115], V0, 0⟩, ⟨4, [40], V0, 3⟩, ⟨1, [120], V0, 4⟩, ⟨4, [41], V0, 5⟩, ⟨4, [58, 45], V0, 7⟩, ⟨1, [114], V0, 10⟩, ⟨4, [40], V0, 11⟩, ⟨1, [120], V0, 12⟩, ⟨4, [44], V0, 13⟩, ⟨2, [45, 53], ⟨1, -5, ⟨#[]⟩⟩, 14⟩, ⟨4, [41], V0, 16⟩, ⟨4, [44], V0, 17⟩, ⟨1, [120], V0, 19⟩, ⟨4, [33, 61], V0, 21⟩, ⟨3, [34, 97, 34], strV [97], 24⟩, ⟨0, [], V0, 27⟩]
theorem ex_m5 : parseL [45, 53] = (⟨1, -5, ⟨#[]⟩⟩, 0) := by
  have h : textL ⟨1, -5, ⟨#[]⟩⟩ = [45, 53] := by
    rw [textL_int (by decide +kernel) rfl]
    show Lib.itoa (-5) = _
    unfold Lib.itoa
    rw [if_pos (by decide)]
    show 45 :: Lib.decDigits 5 = _
    rw [Lib.decDigits_one (by decide)]; rfl
  rw [← h]
  exact parse_text (by decide +kernel) ⟨by decide, by decide⟩
theorem ex_a : parseL [34, 97, 34] = (strV [97], 0) := by
  have h : textL (strV [97]) = [34, 97, 34] := by
    rw [textL_str (by decide +kernel) (by decide)]; rfl
  rw [← h]
  exact parse_text (by decide +kernel) ⟨by decide, by decide⟩
theorem tok_step {r : List UInt8} {a : Int} {t : Tok} {ts : List Tok} {r' : List UInt8} {b : Int} (hr : r ≠ []) (hw : whtB (r.getD 0 0) = false) (h : nextL r a = (t, 0)) (h1 : r.drop t.t.length = r') (h2 : a + t.t.length = b) (hs : Sc r' b ts) : Sc r a (t :: ts) :=
  Sc.tok hr hw h (by rw [h1, h2]; exact hs)
theorem lit_of {k : Int} {x : List UInt8} {v : V} (h : parseL x = (v, 0)) (a : Int) : litTok k x a = (⟨k, x, v, a⟩, 0) := by
  unfold litTok; rw [h, if_pos rfl]
theorem ex_scan : scanL exL = (exToks, 0, 0) := by
  refine scanL_sc (by decide) ?_
  unfold exL exToks
  refine tok_step (by decide) (by decide) (by rfl) rfl rfl ?_
  refine tok_step (by decide) (by decide) (by rfl) rfl rfl ?_
  refine tok_step (by decide) (by decide) (by rfl) rfl rfl ?_
  refine tok_step (by decide) (by decide) (by rfl) rfl rfl ?_
  refine Sc.white (by decide) ?_
  refine tok_step (by decide) (by decide) (by rfl) rfl rfl ?_
  refine Sc.white (by decide) ?_
  refine tok_step (by decide) (by decide) (by rfl) rfl rfl ?_
  refine tok_step (by decide) (by decide) (by rfl) rfl rfl ?_
  refine tok_step (by decide) (by decide) (by rfl) rfl rfl ?_
  refine tok_step (by decide) (by decide) (by rfl) rfl rfl ?_
  refine tok_step (by decide) (by decide) (show nextL _ _ = _ from lit_of ex_m5 _) rfl rfl ?_
  refine tok_step (by decide) (by decide) (by rfl) rfl rfl ?_
  refine tok_step (by decide) (by decide) (by rfl) rfl rfl ?_
  refine Sc.white (by decide) ?_
  refine tok_step (by decide) (by decide) (by rfl) rfl rfl ?_
  refine Sc.white (by decide) ?_
  refine tok_step (by decide) (by decide) (by rfl) rfl rfl ?_
  refine Sc.white (by decide) ?_
  refine tok_step (by decide) (by decide) (show nextL _ _ = _ from lit_of ex_a _) rfl rfl ?_
  exact Sc.nil _
theorem ex_bad : scanL [120, 32, 45, 32, 49] = ([], 2, 15) := by
  unfold scanL
  rw [if_neg (by decide), scan1_tok (t := ⟨1, [120], V0, 0⟩) (by decide) (by decide) (by rfl)]
  have e : scan1 (([120, 32, 45, 32, 49] : List UInt8).drop ([120] : List UInt8).length) (0 + (([120] : List UInt8).length : Int)) = ([], 2, 15) := by
    show scan1 [32, 45, 32, 49] 1 = _
    rw [scan1_white (by decide), scan1_bad (by decide) (by decide) (by decide)]
    rfl
  simp only at e ⊢
  rw [e]
  rfl
end

/-! ### Lex6 -/
section

theorem Sc.bounds {l : List UInt8} {a : Int} {ts : List Tok} (h : Sc l a ts) : ∀ t ∈ ts, a ≤ t.a ∧ t.a ≤ a + l.length := by
  induction h with
  | nil a => intro t ht; obtain rfl : t = _ := by simpa using ht
             simp
  | white h hs ih =>
    intro t ht
    have := ih t ht
    simp only [List.length_cons]; omega
  | @tok r a t ts hr hw h hs ih =>
    intro u hu
    obtain ⟨hp, _, ha, _⟩ := nextL_ok hr h
    have hle := hp.length_le
    rcases List.mem_cons.1 hu with rfl | hu
    · omega
    · have := ih u hu
      rw [List.length_drop] at this
      omega

theorem scanL_join {s u : List UInt8} {ts us : List Tok} {q q' : Int} (h : scanL s = (ts, q, 0)) (h' : scanL u = (us, q', 0)) (hl : s.length + u.length ≤ 1000) :
    scanL (s ++ 10 :: u) = (ts.dropLast ++ us.map (Tok.sh (s.length + 1)), 0, 0) := by
  refine scanL_sc (by simp; omega) (Sc.join (by decide) (scanL_ok h).1 ?_)
  have := (scanL_ok h').1.shift ((s.length : Int) + 1)
  rw [show (0 : Int) + (s.length : Int) + 1 = 0 + ((s.length : Int) + 1) by omega]
  exact this

theorem join_nth {ts us : List Tok} {n : Nat} (hn : ts.length = n + 1) (d : Int) (k : Nat) (h : k < (ts.dropLast ++ us).length) (h' : k < (ts.dropLast ++ us.map (Tok.sh d)).length) :
    ∃ x : Tok, (ts.dropLast ++ us)[k] = x ∧ (ts.dropLast ++ us.map (Tok.sh d))[k] = ⟨x.k, x.t, x.v, if n ≤ k then x.a + d else x.a⟩ ∧ (x ∈ ts ∨ x ∈ us) := by
  have hd : ts.dropLast.length = n := by rw [List.length_dropLast]; omega
  refine ⟨_, rfl, ?_, ?_⟩
  · by_cases hk : n ≤ k
    · rw [if_pos hk, List.getElem_append_right (by omega), List.getElem_append_right (by omega), List.getElem_map]; rfl
    · rw [if_neg hk, List.getElem_append_left (by omega), List.getElem_append_left (by omega)]
  · have := List.getElem_mem h
    rcases List.mem_append.1 this with h | h
    · exact .inl (List.dropLast_subset _ h)
    · exact .inr h
theorem ok_ne {l : List UInt8} {ts : List Tok} {q : Int} (h : scanL l = (ts, q, 0)) : ∃ n, ts.length = n + 1 ∧ n ≤ l.length := by
  have h1 := (scanL_ok h).1
  have h2 := List.length_pos_iff.2 h1.ne
  have h3 := h1.head
  exact ⟨ts.length - 1, by omega, by omega⟩
end

/-! ### Lex7 -/
section

/-- The gap that a byte chooses. -/
def gapL (m : Nat) : List UInt8 := if m = 0 then [32] else if m = 1 then [10] else if m = 2 then [9, 32, 13] else [32, 32]
def gapsL (gl : List UInt8) : List (List UInt8) := gl.map fun g => gapL (g.toNat % 4)
theorem gapL_ok (m : Nat) : gapOk (gapL m) ∧ (gapL m).length ≤ 3 := by
  unfold gapL gapOk
  split
  · decide
  · split
    · decide
    · split <;> decide
theorem gapsL_ok (gl : List UInt8) : ∀ g ∈ gapsL gl, gapOk g ∧ g.length ≤ 3 := by
  intro g hg
  obtain ⟨x, _, rfl⟩ := List.mem_map.1 hg
  exact gapL_ok _
theorem gapsL_in (gl : List UInt8) (k : Nat) (h : k < gl.length) : (gapsL gl).getD k [32] = gapL (gl[k].toNat % 4) := by
  simp [gapsL, List.getD, h]
theorem gapsL_out (gl : List UInt8) (k : Nat) (h : ¬ k < gl.length) : (gapsL gl).getD k [32] = [32] := by
  have : gl.length ≤ k := by omega
  simp [gapsL, List.getD, this]

theorem joinT_nil (gs : List (List UInt8)) : joinT [] gs = [] := by cases gs <;> rfl
theorem joinT_snoc : ∀ (ts : List Tok) (gs : List (List UInt8)) (k : Nat) (h : k < ts.length), joinT (ts.take (k + 1)) gs = joinT (ts.take k) gs ++ (ts[k].t ++ gs.getD k [32])
  | [], gs, k, h => by simp at h
  | t :: ts, [], 0, _ => by simp [joinT]
  | t :: ts, g :: gs, 0, _ => by simp [joinT, joinT_nil]
  | t :: ts, [], k + 1, h => by
    have := joinT_snoc ts [] k (by simpa using h)
    rw [List.take_succ_cons, List.take_succ_cons, joinT, joinT, this]
    simp
  | t :: ts, g :: gs, k + 1, h => by
    have := joinT_snoc ts gs k (by simpa using h)
    rw [List.take_succ_cons, List.take_succ_cons, joinT, joinT, this]
    simp [List.append_assoc]

theorem Sc.sum {l : List UInt8} {a : Int} {ts : List Tok} (h : Sc l a ts) : (ts.map fun t => t.t.length).sum ≤ l.length := by
  induction h with
  | nil a => simp
  | white h hs ih => simp only [List.length_cons]; omega
  | @tok r a t ts hr hw h hs ih =>
    obtain ⟨hp, _⟩ := nextL_ok hr h
    have hle := hp.length_le
    rw [List.length_drop] at ih
    simp only [List.map_cons, List.sum_cons]; omega
theorem joinT_len : ∀ (ts : List Tok) (gs : List (List UInt8)), (∀ g ∈ gs, g.length ≤ 3) → (joinT ts gs).length ≤ (ts.map fun t => t.t.length).sum + 3 * ts.length
  | [], gs, _ => by rw [joinT_nil]; simp
  | t :: ts, [], h => by
    have := joinT_len ts [] h
    simp only [joinT, List.length_append, List.length_cons, List.map_cons, List.sum_cons]; omega
  | t :: ts, g :: gs, h => by
    have := joinT_len ts gs fun x hx => h x (by simp [hx])
    have := h g (by simp)
    simp only [joinT, List.length_append, List.length_cons, List.map_cons, List.sum_cons]; omega
theorem tok_le {l : List UInt8} {a : Int} {ts : List Tok} (h : Sc l a ts) {k : Nat} (hk : k < ts.length) : ts[k].t.length ≤ l.length := by
  have h1 := h.sum
  have h2 : ∀ (ts : List Tok) (k : Nat) (hk : k < ts.length), ts[k].t.length ≤ (ts.map fun t => t.t.length).sum := by
    intro ts
    induction ts with
    | nil => intro k hk; simp at hk
    | cons t ts ih =>
      intro k hk
      match k with
      | 0 => simp
      | k + 1 =>
        have := ih k (by simpa using hk)
        simp only [List.getElem_cons_succ, List.map_cons, List.sum_cons]; omega
  have := h2 ts k hk
  omega

/-- The tokens' texts with gaps, scanned again. -/
theorem scanL_back {l : List UInt8} {ts : List Tok} {q : Int} (h : scanL l = (ts, q, 0)) (hl : l.length ≤ 1000) (gl : List UInt8) :
    ∃ js, scanL (joinT ts (gapsL gl)) = (js, 0, 0) ∧ js.length = ts.length ∧ ∀ k (h : k < ts.length) (h' : k < js.length), ∃ (x : Tok) (a : Int), ts[k] = x ∧ js[k] = ⟨x.k, x.t, x.v, a⟩ := by
  have hs := (scanL_ok h).1
  obtain ⟨us, h1, h2⟩ := hs.back (gapsL gl) 0 fun g hg => (gapsL_ok gl g hg).1
  have hlen : us.length = ts.length := by
    have := congrArg List.length h2
    simpa using this
  have hj := joinT_len ts (gapsL gl) fun g hg => (gapsL_ok gl g hg).2
  have hsum := hs.sum
  have hhd := hs.head
  refine ⟨us, scanL_sc (by omega) h1, hlen, fun k hk hk' => ⟨_, us[k].a, rfl, ?_⟩⟩
  have e : (us.map Tok.bare)[k]? = (ts.map Tok.bare)[k]? := by rw [h2]
  rw [List.getElem?_map, List.getElem?_map, List.getElem?_eq_getElem hk, List.getElem?_eq_getElem hk'] at e
  simp only [Option.map_some, Option.some.injEq, Tok.bare, Prod.mk.injEq] at e
  obtain ⟨e1, e2, e3⟩ := e
  rw [← e1, ← e2, ← e3]
end

/-! ### PgP -/
section

section
variable {σ : Type} (tk : Nat → Tok) (sep : Str) (step : Nat → σ → Out σ)
/-- One or more elements with a separator between any two. -/
def listS : Nat → Nat → σ → Out σ
  | 0, i, _ => .bad i
  | f + 1, i, s => match step i s with
    | .bad b => .bad b
    | .ok s' nx => if isT (tk nx) sep = true then listS f (nx + 1) s' else .ok s' nx
end
section
variable {tk : Nat → Tok}
theorem listS_rule {n : Nat} : ∀ {f i : Nat} {r : Rul}, listS tk sComma (itemS tk n) f i r = ruleG tk n f i r
  | 0, _, _ => rfl
  | f + 1, i, r => by
    unfold listS ruleG
    cases itemS tk n i r with
    | bad b => rfl
    | ok r' nx => simp only; rw [listS_rule]
def nameStep (tk : Nat → Tok) (i : Nat) (acc : List Str) : Out (List Str) := if (tk i).k ≠ 1 then .bad i else .ok (acc ++ [(tk i).t]) (i + 1)
theorem listS_names : ∀ {f i : Nat} {acc : List Str}, listS tk sComma (nameStep tk) f i acc = namesS tk f i acc
  | 0, _, _ => rfl
  | f + 1, i, acc => by
    rw [listS, namesS]
    by_cases h : (tk i).k ≠ 1
    · rw [show nameStep tk i acc = .bad i from if_pos h, if_pos h]
    · rw [show nameStep tk i acc = .ok (acc ++ [(tk i).t]) (i + 1) from if_neg h, if_neg h]
      simp only
      rw [listS_names]
def keyStep (tk : Nat → Tok) (i : Nat) (acc : List Ky) : Out (List Ky) := if (tk i).k ≠ 1 then .bad i else
  if isT (tk (i + 1)) sDesc = true then .ok (acc ++ [⟨(tk i).t, true⟩]) (i + 2) else .ok (acc ++ [⟨(tk i).t, false⟩]) (i + 1)
theorem listS_keys : ∀ {f i : Nat} {acc : List Ky}, listS tk sComma (keyStep tk) f i acc = keysS tk f i acc
  | 0, _, _ => rfl
  | f + 1, i, acc => by
    rw [listS, keysS]
    by_cases h : (tk i).k ≠ 1
    · rw [show keyStep tk i acc = .bad i from if_pos h, if_pos h]
    · rw [show keyStep tk i acc = if isT (tk (i + 1)) sDesc = true then .ok (acc ++ [⟨(tk i).t, true⟩]) (i + 2) else .ok (acc ++ [⟨(tk i).t, false⟩]) (i + 1) from if_neg h, if_neg h]
      cases hd : isT (tk (i + 1)) sDesc with
      | true => simp only [if_true]; rw [listS_keys]
      | false => simp only [Bool.false_eq_true, if_false]; rw [listS_keys]
def ruleStep (tk : Nat → Tok) (n : Nat) (i : Nat) (acc : List Rul) : Out (List Rul) := match ruleG tk n n i ⟨[], []⟩ with
  | .bad e => .bad e
  | .ok r nx => .ok (acc ++ [r]) nx
theorem listS_rules {n : Nat} : ∀ {f i : Nat} {acc : List Rul}, listS tk sBar (ruleStep tk n) f i acc = rulesS tk n f i acc
  | 0, _, _ => rfl
  | f + 1, i, acc => by
    rw [listS, rulesS]
    cases hr : ruleG tk n n i ⟨[], []⟩ with
    | bad b => rw [show ruleStep tk n i acc = .bad b by unfold ruleStep; rw [hr]]
    | ok r' nx => rw [show ruleStep tk n i acc = .ok (acc ++ [r']) nx by unfold ruleStep; rw [hr]]; simp only; rw [listS_rules]
def termStep (tk : Nat → Tok) (i : Nat) (acc : List Trm) : Out (List Trm) := match termT (tk i) with
  | none => .bad i
  | some t => .ok (acc ++ [t]) (i + 1)
def shutS (tk : Nat → Tok) (o : Out (List Trm)) : Out (List Trm) := match o with
  | .bad b => .bad b
  | .ok ts nx => if isT (tk nx) sShut = true then .ok ts (nx + 1) else .bad nx
theorem isT_two {t : Tok} {a b : Str} (ha : isT t a = true) (hab : a ≠ b) : isT t b = false := by
  unfold isT at *
  simp only [Bool.and_eq_true, beq_iff_eq] at ha
  rw [ha.2]
  simp [hab]
theorem listS_terms : ∀ {f i : Nat} {acc : List Trm}, shutS tk (listS tk sComma (termStep tk) f i acc) = termsS tk f i acc
  | 0, _, _ => rfl
  | f + 1, i, acc => by
    rw [listS, termsS]
    cases ht : termT (tk i) with
    | none => rw [show termStep tk i acc = .bad i by unfold termStep; rw [ht]]; rfl
    | some t =>
      rw [show termStep tk i acc = .ok (acc ++ [t]) (i + 1) by unfold termStep; rw [ht]]
      simp only
      cases hs : isT (tk (i + 1)) sShut with
      | true =>
        rw [isT_two hs (by decide)]
        simp [shutS, hs]
      | false =>
        cases hc : isT (tk (i + 1)) sComma with
        | true => simp only [if_true, Bool.false_eq_true, if_false]; rw [listS_terms]
        | false => simp [shutS, hs]
end
section
variable {L : List Tok}
theorem termStep_nx (hE : Ended L) {i nx : Nat} {a b : List Trm} (e : termStep (tkL L) i a = .ok b nx) : i < nx ∧ nx < L.length := by
  unfold termStep at e
  cases ht : termT (tkL L i) with
  | none => rw [ht] at e; cases e
  | some t => rw [ht] at e; injection e with _ e2; have := hE.term ht; omega
theorem nameStep_nx (hE : Ended L) {i nx : Nat} {a b : List Str} (e : nameStep (tkL L) i a = .ok b nx) : i < nx ∧ nx < L.length := by
  unfold nameStep at e
  split at e
  · cases e
  · rename_i h
    injection e with _ e2; have := hE.one (i := i) (by simpa using h); omega
theorem keyStep_nx (hE : Ended L) {i nx : Nat} {a b : List Ky} (e : keyStep (tkL L) i a = .ok b nx) : i < nx ∧ nx < L.length := by
  unfold keyStep at e
  split at e
  · cases e
  · rename_i h
    have h1 := hE.one (i := i) (by simpa using h)
    split at e
    · rename_i h2
      have := hE.isT h2
      injection e with _ e2; omega
    · injection e with _ e2; omega
theorem ruleStep_nx (hE : Ended L) {n i nx : Nat} {a b : List Rul} (e : ruleStep (tkL L) n i a = .ok b nx) : i < nx ∧ nx < L.length := by
  unfold ruleStep at e
  cases hr : ruleG (tkL L) n n i ⟨[], []⟩ with
  | bad b => rw [hr] at e; cases e
  | ok r nx2 => rw [hr] at e; injection e with _ e2; have := ruleS_nx hE hr; omega
theorem itemStep_nx (hE : Ended L) {n i nx : Nat} {a b : Rul} (e : itemS (tkL L) n i a = .ok b nx) : i < nx ∧ nx < L.length := ⟨(itemS_nx hE e).1, (itemS_nx hE e).2.1⟩
end
end
end Go.Proofs.YtjhnopnppimnhaaGreatDoor
