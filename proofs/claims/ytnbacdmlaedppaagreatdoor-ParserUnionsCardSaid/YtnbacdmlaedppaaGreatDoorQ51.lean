/-
  PARTS of a claim, merged by segs.py: PgI.
-/
import Derived.Test.YtnbacdmlaedppaaGreatDoorQ48
import Derived.Test.YtnbacdmlaedppaaGreatDoorQ30
namespace Go.Proofs.YtnbacdmlaedppaaGreatDoor

/-! ### PgI -/
section

theorem nextL_kind {r : List UInt8} {a : Int} {t : Tok} (hr : r ≠ []) (h : nextL r a = (t, 0)) : t.k ≠ 0 := by
  obtain ⟨_, _, _, h⟩ := nextL_ok hr h
  rcases h with ⟨h, _⟩ | ⟨h, _⟩ <;> omega
theorem Sc.inner {l : List UInt8} {a : Int} {ts : List Tok} (h : Sc l a ts) : ∀ i (_ : i + 1 < ts.length), ts[i].k ≠ 0 := by
  induction h with
  | nil a => intro i hi; simp at hi
  | white h hs ih => exact ih
  | tok hr hw h hs ih =>
    intro i hi
    cases i with
    | zero => exact nextL_kind hr h
    | succ i => exact ih i (by simpa using hi)
/-- Only the last token is the end. -/
theorem Sc.stop {l : List UInt8} {a : Int} {ts : List Tok} (h : Sc l a ts) {n : Nat} (hn : n < ts.length) (hk : (tkL ts n).k = 0) : n + 1 = ts.length := by
  rw [tkL_at hn] at hk
  refine Classical.byContradiction fun hc => ?_
  exact h.inner n (by omega) hk
theorem tkL_bare_at {js : List Tok} {bs : List Bt} (h : js.map Tok.bare = bs) {i : Nat} (hi : i < bs.length) : (tkL js i).bare = bs[i] := by
  subst h
  rw [tkL_at (by simpa using hi)]
  simp
theorem rulesS_nx {L : List Tok} (hE : Ended L) {n : Nat} : ∀ {f i nx : Nat} {a b : List Rul}, rulesS (tkL L) n f i a = .ok b nx → nx < L.length
  | 0, i, nx, a, b, e => by cases e
  | f + 1, i, nx, a, b, e => by
    unfold rulesS at e
    cases hi : ruleG (tkL L) n n i ⟨[], []⟩ with
    | bad x => rw [hi] at e; cases e
    | ok r2 nx2 =>
      rw [hi] at e
      simp only at e
      have h2 := ruleS_nx hE hi
      split at e
      · exact rulesS_nx hE e
      · injection e with _ e2; omega
theorem keysS_ne {tk : Nat → Tok} : ∀ {f i nx : Nat} {a b : List Ky}, keysS tk f i a = .ok b nx → b ≠ []
  | 0, i, nx, a, b, e => by cases e
  | f + 1, i, nx, a, b, e => by
    unfold keysS at e
    split at e
    · cases e
    · simp only at e
      generalize (if isT (tk (i + 1)) sDesc = true then i + 2 else i + 1) = j at e
      split at e
      · exact keysS_ne e
      · injection e with e1 _
        rw [← e1]; simp
theorem orders_scan {l : List UInt8} {ts : List Tok} {k : Ky} (h : Sc l 0 ts) (hv : nameB k.v = true) :
    ∃ js, Sc (l ++ orderS [k]) 0 js ∧ js.map Tok.bare = ts.dropLast.map Tok.bare ++ (kyB sOrder :: (tksK k ++ [enB])) := by
  obtain ⟨us, h1, h2⟩ := ScB.key (x := sOrder) (by decide) (Stop.cons (c := 32) (by decide)) (ScB.white (c := 32) (by decide) (sb_key hv Stop.nil ScB.nil))
  have h3 := h1.shift ((l.length : Int) + 1)
  rw [← Int.add_assoc] at h3
  have h4 := Sc.join (c := 32) (by decide) h h3
  refine ⟨ts.dropLast ++ us.map (Tok.sh ((l.length : Int) + 1)), ?_, ?_⟩
  · have e : l ++ orderS [k] = l ++ 32 :: (sOrder ++ 32 :: (keyS k ++ [])) := by congr 1
    rw [e]
    exact h4
  · rw [List.map_append, sh_bare, h2]
theorem gram_orders {ts js : List Tok} {q : Qry} {a : Int} {k : Ky} (hE : Ended ts) (hin : ∀ n, n < ts.length → (tkL ts n).k = 0 → n + 1 = ts.length) (hg : gramQ ts = (q, a, 0)) (ho : q.order = [])
    (hb : js.map Tok.bare = ts.dropLast.map Tok.bare ++ (kyB sOrder :: (tksK k ++ [enB]))) : gramQ js = ({ q with order := [k] }, 0, 0) := by
  unfold gramQ at hg
  cases hf : fullS (tkL ts) (queryS (tkL ts) ts.length) with
  | bad e =>
    rw [hf] at hg
    exact absurd (congrArg (fun x : Qry × Int × Int => x.2.2) hg) (by show ¬ (21 : Int) = 0; decide)
  | ok q2 nx =>
    rw [hf] at hg
    obtain rfl : q2 = q := congrArg Prod.fst hg
    have hqn : queryS (tkL ts) ts.length = .ok q2 nx ∧ (tkL ts nx).k = 0 := by
      cases hq : queryS (tkL ts) ts.length with
      | bad e => rw [hq] at hf; cases hf
      | ok x n =>
        rw [hq] at hf
        unfold fullS at hf
        simp only at hf
        split at hf
        · rename_i h0
          injection hf with e1 e2
          subst e1 e2
          exact ⟨rfl, h0⟩
        · cases hf
    obtain ⟨hq, hk0⟩ := hqn
    unfold queryS at hq
    cases hh : headG (tkL ts) ts.length with
    | bad e => rw [hh] at hq; cases hq
    | ok q0 n0 =>
      rw [hh] at hq
      simp only at hq
      cases hr : rulesS (tkL ts) ts.length ts.length n0 [] with
      | bad e => rw [hr] at hq; cases hq
      | ok rs n1 =>
        rw [hr] at hq
        simp only at hq
        split at hq
        · cases hks : keysS (tkL ts) ts.length (n1 + 1) [] with
          | bad e => rw [hks] at hq; cases hq
          | ok ks n2 =>
            rw [hks] at hq
            injection hq with e1 _
            rw [← e1] at ho
            exact absurd ho (keysS_ne hks)
        · injection hq with e1 e2
          subst e1 e2
          have hlt := rulesS_nx hE hr
          have hst := hin n1 hlt hk0
          have hge := rulesS_gt hr
          obtain ⟨bs, hbs⟩ : ∃ bs, ts.dropLast.map Tok.bare = bs := ⟨_, rfl⟩
          have hbl : bs.length = n1 := by rw [← hbs]; simp; omega
          rw [hbs] at hb
          have hjl : js.length = n1 + 1 + (tksK k).length + 1 := by
            have := congrArg List.length hb
            simp only [List.length_map, List.length_append, List.length_cons, List.length_nil] at this
            omega
          have hA : Agr (tkL ts) (tkL js) 0 0 n1 := by
            intro i _ hi
            rw [Nat.add_zero, tkL_bare_at hb (by simp; omega), List.getElem_append_left (by omega)]
            have : bs[i]'(by omega) = (ts.dropLast.map Tok.bare)[i]'(by simp; omega) := by simp only [hbs]
            rw [this, tkL_at (by omega)]
            simp
          have hT : At (tkL js) n1 (kyB sOrder :: (tksK k ++ [enB])) := by
            intro i hi
            rw [tkL_bare_at hb (by rw [List.length_append]; omega), List.getElem_append_right (by omega)]
            simp only [hbl, Nat.add_sub_cancel_left]
          have g0 := hT.head
          have m1 := headS_move (n' := js.length) (by omega) hh (hA.sub (by omega) (by omega))
          have m2 := rulesS_move (n' := js.length) (d := 0) (by omega) (f' := js.length) hr (hA.sub (by omega) (by omega)) (by rw [Nat.add_zero, at_ky g0]; decide) (by rw [Nat.add_zero, at_ky g0]; decide) (by omega)
          rw [Nat.add_zero, Nat.add_zero] at m2
          have m3 := keysS_at [] k js.length (n1 + 1) [] (by simpa using hT.tail) (by simp; omega)
          have m4 : (tkL js (n1 + 1 + (tksK k).length)).k = 0 := by
            have h5 := hT.tail.right
            exact (at_en (u := sOrder) h5.head).2
          unfold gramQ queryS
          rw [m1]
          simp only
          rw [m2]
          simp only
          rw [at_ky g0, if_pos (by decide), m3]
          simp only [List.nil_append, List.flatMap_nil, List.append_nil]
          unfold fullS
          simp only
          rw [if_pos m4]
theorem check_orders {q : Qry} {k : Ky} (h : checkQ q = 0) (hk : k.v ∈ q.head) : checkQ { q with order := [k] } = 0 := by
  obtain ⟨h1, h2, h3, h4, h5, h6, _⟩ := check_parts h
  unfold checkQ
  rw [if_neg h1, if_neg (fun h => h.elim (fun h => absurd h2 (by simp only at h; omega)) h3)]
  have h6' : firstE (ruleE { q with order := [k] }) q.rules = 0 := h6
  have h5' : aggE { q with order := [k] } = 0 := h5
  simp only [h4, h5', h6', ne_eq, not_true, if_false]
  unfold orderE orderGo
  simp only
  rw [if_pos hk, if_neg (by simp)]
  rfl
/-- The law in plain words. -/
theorem orders_plain {l : List UInt8} {q : Qry} {a : Int} {k : Ky} (h : parseP (scanL l) = (q, a, 0)) (ho : q.order = []) (hk : k.v ∈ q.head) (hl : l.length ≤ 800) :
    (l ++ orderS [k]).length ≤ 65536 ∧ parseP (scanL (l ++ orderS [k])) = ({ q with order := [k] }, 0, 0) := by
  obtain ⟨⟨ts, p, e⟩, hx⟩ : ∃ x, scanL l = x := ⟨_, rfl⟩
  rw [hx] at h
  unfold parseP at h
  simp only at h
  by_cases he : e = 0
  · subst he
    rw [if_pos rfl] at h
    by_cases h2 : (gramQ ts).2.2 = 0
    · rw [if_pos h2] at h
      by_cases h3 : checkQ (gramQ ts).1 = 0
      · rw [if_pos h3] at h
        have hq : (gramQ ts).1 = q := congrArg Prod.fst h
        rw [hq] at h3
        have hn := (headE_zero (check_parts h3).2.2.2.1).2.1 _ hk
        have hg : gramQ ts = (q, (gramQ ts).2.1, 0) := Prod.ext hq (Prod.ext rfl h2)
        have hs := (scanL_ok hx).1
        obtain ⟨js, j1, j2⟩ := orders_scan hs hn
        have hlen : (l ++ orderS [k]).length ≤ 65536 := by
          have := name_len hn
          rw [List.length_append]
          unfold orderS keyS
          rw [if_neg (by simp)]
          simp only [List.map_cons, List.map_nil, joinS, List.length_append, List.length_cons, List.length_nil]
          split <;> simp <;> omega
        refine ⟨hlen, ?_⟩
        rw [scanL_sc hlen j1]
        unfold parseP
        simp only
        rw [if_pos trivial, gram_orders hs.ended (fun n h1 h2 => hs.stop h1 h2) hg ho j2]
        simp only
        rw [if_pos trivial, if_pos (check_orders h3 hk)]
      · rw [if_neg h3] at h
        exact absurd (congrArg (fun x : Qry × Int × Int => x.2.2) h) h3
    · rw [if_neg h2] at h
      exact absurd (congrArg (fun x : Qry × Int × Int => x.2.2) h) h2
  · rw [if_neg he] at h
    exact absurd (congrArg (fun x : Qry × Int × Int => x.2.2) h) he
end
end Go.Proofs.YtnbacdmlaedppaaGreatDoor
