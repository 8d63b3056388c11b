/-
  PARTS of a claim, merged by segs.py: PgG, Pg5.
-/
import Derived.Test.YtnbacdmlaedppaaGreatDoorQ21
import Derived.Test.YtnbacdmlaedppaaGreatDoorQ20
namespace Go.Proofs.YtnbacdmlaedppaaGreatDoor

/-! ### PgG -/
section
open Go.RowKit

abbrev qryA (v0 : Value) (a : Int) (s : ByteArray) (v3 v4 : Value) : Array Value := #[v0, .int .i64 a, .string s, v3, v4]
def aggsB : List ByteArray := [⟨#[99, 111, 117, 110, 116]⟩, ⟨#[115, 117, 109]⟩, ⟨#[109, 105, 110]⟩, ⟨#[109, 97, 120]⟩]
def aggsL : List Str := [sCount, sSum, sMin, sMax]
theorem any_aggs (t : Tok) : isAny t aggsB = (aggsL.findIdx? fun s => isT t s).isSome := by
  rw [List.findIdx?_isSome]
  unfold isAny isT
  by_cases h : (t.k == 4 || t.k == 5) = true
  · rw [h, Bool.true_and]
    have key : Lib.containsS aggsB ⟨t.t.toArray⟩ = true ↔ (aggsL.any fun s => true && t.t == s) = true := by
      rw [Lib.containsS_iff]
      simp only [aggsB, aggsL, sCount, sSum, sMin, sMax, List.mem_cons, ByteArray.mk.injEq, List.not_mem_nil, or_false, Bool.true_and, List.any_cons, List.any_nil, Bool.or_false, Bool.or_eq_true, beq_iff_eq]
      constructor
      · rintro (h | h | h | h) <;> have h2 := congrArg Array.toList h <;> simp at h2 <;> simp [h2]
      · rintro (h | h | h | h) <;> simp [h]
    exact Bool.eq_iff_iff.2 key
  · have h' : (t.k == 4 || t.k == 5) = false := by simpa using h
    rw [h']; simp
theorem agg_text {t : Tok} {o : Nat} (h : (aggsL.findIdx? fun s => isT t s) = some o) : o < 4 ∧ t.t = aggsL.getD o [] ∧ isT t (aggsL.getD o []) = true := by
  obtain ⟨h1, h2, _⟩ := List.findIdx?_eq_some_iff_getElem.1 h
  have e : aggsL.getD o [] = aggsL[o] := by rw [List.getD_eq_getElem?_getD, List.getElem?_eq_getElem h1]; rfl
  refine ⟨h1, ?_, by rw [e]; exact h2⟩
  have h3 := h2
  unfold isT at h3
  simp only [Bool.and_eq_true, beq_iff_eq] at h3
  rw [e]; exact h3.2
theorem aggG_eq (tk : Nat → Tok) (i : Nat) (q : Qry) : aggG tk i q = match aggsL.findIdx? fun s => isT (tk i) s with
    | none => .bad i
    | some 0 => .ok { q with agg := 1 } (i + 1)
    | some (n + 1) => if (tk (i + 1)).k ≠ 1 then .bad (i + 1) else .ok { q with agg := (n + 2 : Nat), aggVar := (tk (i + 1)).t } (i + 2) := by
  unfold aggG aggT aggsL
  simp only [List.findIdx?_cons, List.findIdx?_nil]
  cases h0 : isT (tk i) sCount
  · cases h1 : isT (tk i) sSum
    · cases h2 : isT (tk i) sMin
      · cases h3 : isT (tk i) sMax <;> simp
      · simp
    · simp
  · simp
/-- What aggregate answers. -/
def RetGg (bp : Nat) (A : Option Addr) (c : Nat) (L : List Tok) (bq : Nat) (v0 v3 v4 : Value) (o : Out Qry) (w : World) (e : Ending) (w' : World) : Prop := (match o with
  | .bad b => e = .returned (.bool false) ∧ PW bp A c L b w'
  | .ok q nx => e = .returned (.bool true) ∧ PW bp A c L nx w' ∧ w'.heap[bq]? = some (.cells (qryA v0 q.agg ⟨q.aggVar.toArray⟩ v3 v4) 27)) ∧ Chg [bp, bq] w w'
section
variable {bp c k : Nat} {A : Option Addr} {L : List Tok} {w : World}
set_option maxRecDepth 100000 in
set_option maxHeartbeats 2000000 in
theorem prs_agg (h : PW bp A c L k w) {bq : Nat} {v0 v3 v4 : Value} (hb : w.heap[bq]? = some (.cells (qryA v0 0 ⟨#[]⟩ v3 v4) 27)) (hne : bp < bq) {hd : List Str} {o : Out Qry} (ho : aggG (tkL L) k ⟨hd, 0, [], [], []⟩ = o) :
    Calls Tryz.prog 80 #[.pointer (some ⟨bp, 0, none⟩), .pointer (some ⟨bq, 0, none⟩)] w (RetGg bp A c L bq v0 v3 v4 o w) := by
  have k0 := below_one w (.cells #[.string ⟨#[99, 111, 117, 110, 116]⟩, .string ⟨#[115, 117, 109]⟩, .string ⟨#[109, 105, 110]⟩, .string ⟨#[109, 97, 120]⟩] 9)
  obtain ⟨x, hx⟩ : ∃ x, (aggsL.findIdx? fun s => isT (tkL L k) s) = x := ⟨_, rfl⟩
  have hz : isAny (tkL L k) aggsB = x.isSome := by rw [any_aggs, hx]
  have hnew := heap_alloc_new w (.cells #[.string ⟨#[99, 111, 117, 110, 116]⟩, .string ⟨#[115, 117, 109]⟩, .string ⟨#[109, 105, 110]⟩, .string ⟨#[109, 97, 120]⟩] 9)
  have hT : TxtsAt (w.alloc (.cells #[.string ⟨#[99, 111, 117, 110, 116]⟩, .string ⟨#[115, 117, 109]⟩, .string ⟨#[109, 105, 110]⟩, .string ⟨#[109, 97, 120]⟩] 9)) w.heap.size 0 aggsB := fun j hj => by
    rw [Nat.zero_add, box_cell hnew]
    have : j = 0 ∨ j = 1 ∨ j = 2 ∨ j = 3 := by simp [aggsB] at hj; omega
    rcases this with rfl | rfl | rfl | rfl <;> rfl
  have H1 := hid (prs_take (m := 4) (h.below k0) hT rfl (by decide) hz)
  have hl := lt_of_block hb
  have HB := hid (fun W' (c : Chg [bp] w W') => (c.block bq hl (by simp; omega)).trans hb)
  have K0 := hid (chg_below (S := [bp]) k0)
  rw [aggG_eq, hx] at ho
  clear h hb hz hnew hT
  cases x with
  | none =>
    simp only [Option.isSome_none] at H1
    simp only at ho
    subst ho
    clear hx
    go_enter Tryz.func80, Tryz.ntmps80
    go_wp2_with fail
    refine H1.out.mono ?_
    rintro e w1 ⟨rfl, p1, c1⟩
    have HF := hid (And.intro p1 (K0.out.trans c1))
    clear p1 c1 H1 HB K0
    go_wp2
    go_ret
    exact ⟨⟨rfl, HF.out.1⟩, HF.out.2.mono (fun s hs => by simp at hs; simp [hs])⟩
  | some m =>
    simp only [Option.isSome_some] at H1
    obtain ⟨hm, ht, _⟩ := agg_text hx
    unfold RetK at H1
    rw [ht] at H1
    clear hx ht
    have : m = 0 ∨ m = 1 ∨ m = 2 ∨ m = 3 := by omega
    clear hm
    obtain ⟨z, hz⟩ : ∃ z, ((tkL L (k + 1)).k == 1) = z := ⟨_, rfl⟩
    have HN := hid (fun V (p : PW bp A c L (k + 1) V) (a : Int) (hb : V.heap[bq]? = some (.cells (qryA v0 a ⟨#[]⟩ v3 v4) 27)) => prs_name (bn := bq) (o := 2) (Z := ⟨#[]⟩) p hb rfl hne hz)
    rcases this with rfl | rfl | rfl | rfl
    · simp only at ho
      subst ho
      clear HN hz
      go_enter Tryz.func80, Tryz.ntmps80
      go_wp2_with fail
      refine H1.out.mono ?_
      rintro e w1 ⟨rfl, p1, c1⟩
      have b1 := HB.out w1 (K0.out.trans c1)
      have e1 := box_cell b1 1
      have f1 := box_free b1 1
      have l1 := lt_of_block b1
      have HF := hid (And.intro p1 (And.intro b1 (K0.out.trans c1)))
      clear p1 c1 b1 H1 HB K0
      go_wp2
      go_ret
      obtain ⟨p1, b1, c1⟩ := HF.out
      exact ⟨⟨rfl, p1.chg ((Chg.refl [bq] w1).set (b := bq) (.inl (by simp)) 1 _) (fun s hs => by simp at hs; omega), heap_setCell_same w1 bq 1 _ _ _ b1⟩, (c1.mono (fun s hs => by simp at hs; simp [hs])).set (.inl (by simp)) 1 _⟩
    all_goals
      have HO := hid ho
      clear ho
      go_enter Tryz.func80, Tryz.ntmps80
      go_wp2_with fail
      refine H1.out.mono ?_
      rintro e w1 ⟨rfl, p1, c1⟩
      have b1 := HB.out w1 (K0.out.trans c1)
      have e1 := box_cell b1 1
      have f1 := box_free b1 1
      have l1 := lt_of_block b1
      have HF := hid (And.intro p1 (And.intro b1 (K0.out.trans c1)))
      clear p1 c1 b1 H1 HB K0
      go_wp2_with fail
      obtain ⟨p1, b1, c1⟩ := HF.out
      refine (HN.out _ (p1.chg ((Chg.refl [bq] w1).set (b := bq) (.inl (by simp)) 1 _) (fun s hs => by simp at hs; omega)) _ (heap_setCell_same w1 bq 1 _ _ _ b1)).mono ?_
      rintro e w2 ⟨rfl, p2, b2, c2⟩
      have hO := HO.out
      have HG := hid (And.intro p2 (And.intro b2 (((c1.mono (fun s hs => by simp at hs; simp [hs])).set (b := bq) (.inl (by simp)) 1 _).trans c2)))
      clear p1 b1 c1 p2 b2 c2 HF HN HO e1 f1 l1
      cases z with
      | true =>
        have hk1 : (tkL L (k + 1)).k = 1 := by simpa using hz
        try simp only at hO
        rw [if_neg (by simpa using hk1)] at hO
        subst hO
        clear hz hk1
        go_wp2
        go_ret
        obtain ⟨p2, b2, c2⟩ := HG.out
        exact ⟨⟨rfl, p2, b2⟩, c2⟩
      | false =>
        have hk1 : (tkL L (k + 1)).k ≠ 1 := by simpa using hz
        try simp only at hO
        rw [if_pos hk1] at hO
        subst hO
        clear hz hk1
        go_wp2
        go_ret
        obtain ⟨p2, b2, c2⟩ := HG.out
        exact ⟨⟨rfl, p2⟩, c2⟩
end
end

/-! ### Pg5 -/
section
open Go.RowKit

/-- A skip of one text, its slice just made. -/
theorem prs_skipn {bp c k : Nat} {A : Option Addr} {L : List Tok} {V : World} (h : PW bp A c L k V) {s : Str} (hs : s.length ≤ 100) {z : Bool} (hz : isT (tkL L k) s = z) {g : Nat} (hg : g = V.heap.size) :
    Calls Tryz.prog 47 #[.pointer (some ⟨bp, 0, none⟩), .slice (some ⟨g, 0, none⟩) 1 1] (V.alloc (.cells #[.string ⟨s.toArray⟩] 9)) (RetZ bp A c L k z V) := by
  subst hg
  refine (prs_skip1 (h.below (below_one V _)) V.heap.size (by simp) hs hz).mono ?_
  rintro e w' ⟨h1, h2, h3⟩
  exact ⟨h1, h2, (chg_below (below_one V _)).trans h3⟩
/-- The terms with both parentheses. -/
def openS (tk : Nat → Tok) (f i : Nat) : Out (List Trm) := if isT (tk i) sOpen = true then parenS tk f (i + 1) else .bad i
def RetTo (bp : Nat) (A : Option Addr) (c : Nat) (L : List Tok) (ba : Nat) (ng : Bool) (rl : ByteArray) (o : Out (List Trm)) (w : World) (e : Ending) (w' : World) : Prop := (match o with
  | .bad b => e = .returned (.bool false) ∧ PW bp A c L b w' ∧ ∃ X n d, w'.heap[ba]? = some (.cells #[.bool ng, .string rl, .slice X n d] 111)
  | .ok ts nx => e = .returned (.bool true) ∧ PW bp A c L nx w' ∧ ∃ u, w'.heap[ba]? = some (.cells #[.bool ng, .string rl, u] 111) ∧ w'.ownsRow w.heap.size 146 4 u ts.length (ts.flatMap cellsT)) ∧ Chg [bp, ba] w w'

section
variable {bp c k : Nat} {A : Option Addr} {L : List Tok} {w : World}
set_option maxRecDepth 100000 in
set_option maxHeartbeats 2000000 in
theorem prs_terms {ba : Nat} {ng : Bool} {rl : ByteArray} (hp : PW bp A c L k w) (hb : w.heap[ba]? = some (.cells #[.bool ng, .string rl, .slice none 0 0] 111)) (hpa : bp < ba) {o : Out (List Trm)} (ho : openS (tkL L) L.length k = o) :
    Calls Tryz.prog 93 #[.pointer (some ⟨bp, 0, none⟩), .pointer (some ⟨ba, 0, none⟩)] w (RetTo bp A c L ba ng rl o w) := by
  have hmf : ∀ (fn : Fn) (first cap : Array Value) (w : World), (Instr.makeFunc fn first cap).run Tryz.prog w = .ok (.func fn first cap) w := fun _ _ _ _ => rfl
  have hla := lt_of_block hb
  have HEn := hid hp.ended
  obtain ⟨W, hW⟩ : ∃ W, (w.alloc (.cells #[.pointer (some ⟨bp, 0, none⟩)] 69)).alloc (.cells #[.pointer (some ⟨ba, 0, none⟩)] 154) = W := ⟨_, rfl⟩
  have k0 : Below w.heap.size w W := by rw [← hW]; exact ((Below.refl _ _).alloc (Nat.le_refl _) _).alloc (by simp) _
  have hsz : W.heap.size = w.heap.size + 1 + 1 := by rw [← hW]; simp
  have hgp : W.heap[w.heap.size]? = some (.cells #[.pointer (some ⟨bp, 0, none⟩)] 69) := by rw [← hW, Below.heap_alloc _ _ _ (by simp)]; exact heap_alloc_new w _
  have hga : W.heap[w.heap.size + 1]? = some (.cells #[.pointer (some ⟨ba, 0, none⟩)] 154) := by rw [← hW]; have := heap_alloc_new (w.alloc (.cells #[.pointer (some ⟨bp, 0, none⟩)] 69)) (.cells #[.pointer (some ⟨ba, 0, none⟩)] 154); rwa [World.size_alloc] at this
  have hlay : Lay w bp ba w.heap.size (w.heap.size + 1) (w.heap.size + 1 + 1) := ⟨hpa, hla, Nat.le_refl _, by omega, by omega, by omega, by omega⟩
  have hr0 : ∀ j, TrR w bp ba w.heap.size (w.heap.size + 1) (w.heap.size + 1 + 1) ng rl j [] W := fun j => ⟨_, (k0.block ba hla).trans hb, World.ownsRow_nil _ _ _ _, hgp, hga, chg_below k0, by simp, by omega⟩
  have HPp := hid (hp.below k0)
  have HR0 := hid hr0
  have HLay := hid hlay
  have HW := hid hW
  obtain ⟨z, hz⟩ : ∃ z, isT (tkL L k) sOpen = z := ⟨_, rfl⟩
  have HS1 := hid (prs_skipn HPp.out (s := sOpen) (by decide) hz hsz.symm)
  unfold openS at ho
  rw [hz] at ho
  have hzk : z = true → k + 1 < L.length := fun h => hp.ended.isT (hz.trans h)
  -- a world behind a call that turns the parser's box alone
  have HOn := hid (fun (i j : Nat) (s : List Trm) (W1 W2 : World) (h : TrR w bp ba w.heap.size (w.heap.size + 1) (w.heap.size + 1 + 1) ng rl i s W1) (hc : Chg [bp] W1 W2) (hj : i ≤ j) => h.on hlay hc hj)
  clear hp hb hgp hga hr0 hlay hW hz
  cases z with
  | false =>
    rw [if_neg (by decide)] at ho
    subst ho
    have cp0 := box_cell (HR0.out 0).choose_spec.2.2.1 0
    go_enter Tryz.func93, Tryz.ntmps93
    go_wp2_with (first | rw [HW.out] | fail)
    refine HS1.out.mono ?_
    rintro e w2 ⟨rfl, p2, c2⟩
    have HF := hid (And.intro p2 (HOn.out k k _ _ _ (HR0.out k) c2 (Nat.le_refl _)))
    clear p2 c2 HS1 cp0
    go_wp2
    go_ret
    obtain ⟨p2, u, r1, r2, _, _, r5, _⟩ := HF.out
    obtain ⟨X, n, rfl⟩ := own_shape r2
    exact ⟨⟨rfl, p2, X, _, n, r1⟩, r5⟩
  | true =>
    have hk1 := hzk rfl
    rw [if_pos rfl] at ho
    unfold parenS at ho
    obtain ⟨y, hy⟩ : ∃ y, isT (tkL L (k + 1)) sShut = y := ⟨_, rfl⟩
    rw [hy] at ho
    have HS2 := hid (fun V (p : PW bp A c L (k + 1) V) => prs_skipn p (s := sShut) (by decide) hy rfl)
    have hyk : y = true → k + 2 < L.length := fun h => HEn.out.isT (hy.trans h)
    clear hzk hy
    cases y with
    | true =>
      rw [if_pos rfl] at ho
      subst ho
      have cp0 := box_cell (HR0.out 0).choose_spec.2.2.1 0
      go_enter Tryz.func93, Tryz.ntmps93
      go_wp2_with (first | rw [HW.out] | fail)
      refine HS1.out.mono ?_
      rintro e w2 ⟨rfl, p2, c2⟩
      have hR2 := HOn.out k (k + 1) _ _ _ (HR0.out k) c2 (by omega)
      have cp := box_cell hR2.choose_spec.2.2.1 0
      have hcl := lt_of_block hR2.choose_spec.2.2.1
      have HF := hid hR2
      have HS3 := hid (HS2.out w2 p2)
      clear p2 c2 HS1 HS2 hR2 cp0
      go_wp2_with fail
      refine HS3.out.mono ?_
      rintro e w3 ⟨rfl, p3, c3⟩
      have HF3 := hid (And.intro p3 (HOn.out (k + 1) (k + 1) _ _ _ HF.out c3 (Nat.le_refl _)))
      clear p3 c3 HS3 HF cp hcl
      go_wp2
      go_ret
      obtain ⟨p2, u, r1, r2, _, _, r5, _⟩ := HF3.out
      exact ⟨⟨rfl, p2, u, r1, ren_mono r2 (by omega)⟩, r5⟩
    | false =>
      rw [if_neg (by decide), ← listS_terms] at ho
      obtain ⟨q, hq⟩ : ∃ q, listS (tkL L) sComma (termStep (tkL L)) L.length (k + 1) [] = q := ⟨_, rfl⟩
      rw [hq] at ho
      have HL := hid (fun V (p : PW bp A c L (k + 1) V) (r : TrR w bp ba w.heap.size (w.heap.size + 1) (w.heap.size + 1 + 1) ng rl (k + 1) [] V) =>
        prs_list (termStep (tkL L)) (TrR w bp ba w.heap.size (w.heap.size + 1) (w.heap.size + 1 + 1) ng rl) (TrB w bp ba ng rl) (fun _ _ => rfl) (by decide) (fun i nx a b e => termStep_nx HEn.out e) (fun i j s W1 W2 h hc hj => HOn.out i j s W1 W2 h hc hj) (fun s i V2 p2 r2 => prs_term1 HLay.out p2 r2) p r hq)
      cases q with
      | bad b =>
        have ho2 : o = .bad b := ho.symm
        subst ho2
        have cp0 := box_cell (HR0.out 0).choose_spec.2.2.1 0
        go_enter Tryz.func93, Tryz.ntmps93
        go_wp2_with (first | rw [HW.out] | fail)
        refine HS1.out.mono ?_
        rintro e w2 ⟨rfl, p2, c2⟩
        have hR2 := HOn.out k (k + 1) _ _ _ (HR0.out k) c2 (by omega)
        have cp := box_cell hR2.choose_spec.2.2.1 0
        have hcl := lt_of_block hR2.choose_spec.2.2.1
        have HF := hid hR2
        have HS3 := hid (HS2.out w2 p2)
        clear p2 c2 HS1 HS2 hR2 cp0
        go_wp2_with fail
        refine HS3.out.mono ?_
        rintro e w3 ⟨rfl, p3, c3⟩
        have hR3 := HOn.out (k + 1) (k + 1) _ _ _ HF.out c3 (Nat.le_refl _)
        have cp3 := box_cell hR3.choose_spec.2.2.1 0
        have HL3 := hid (HL.out w3 p3 hR3)
        clear p3 c3 HS3 HF cp hcl HL hR3
        go_wp2_with fail
        refine HL3.out.mono ?_
        rintro e w4 ⟨rfl, p4, r4⟩
        have HF4 := hid (And.intro p4 r4)
        clear p4 r4 HL3 cp3
        go_wp2
        go_ret
        obtain ⟨p2, X, n, d, r1, r5⟩ := HF4.out
        exact ⟨⟨rfl, p2, X, n, d, r1⟩, r5⟩
      | ok ts nx =>
        obtain ⟨v, hv⟩ : ∃ v, isT (tkL L nx) sShut = v := ⟨_, rfl⟩
        have HS4 := hid (fun V (p : PW bp A c L nx V) => prs_skipn p (s := sShut) (by decide) hv rfl)
        have ho2 : (if v = true then Out.ok ts (nx + 1) else .bad nx) = o := by rw [← ho, ← hv]; rfl
        have HO := hid ho2
        clear ho ho2 hq hv
        have cp0 := box_cell (HR0.out 0).choose_spec.2.2.1 0
        go_enter Tryz.func93, Tryz.ntmps93
        go_wp2_with (first | rw [HW.out] | fail)
        refine HS1.out.mono ?_
        rintro e w2 ⟨rfl, p2, c2⟩
        have hR2 := HOn.out k (k + 1) _ _ _ (HR0.out k) c2 (by omega)
        have cp := box_cell hR2.choose_spec.2.2.1 0
        have hcl := lt_of_block hR2.choose_spec.2.2.1
        have HF := hid hR2
        have HS3 := hid (HS2.out w2 p2)
        clear p2 c2 HS1 HS2 hR2 cp0
        go_wp2_with fail
        refine HS3.out.mono ?_
        rintro e w3 ⟨rfl, p3, c3⟩
        have hR3 := HOn.out (k + 1) (k + 1) _ _ _ HF.out c3 (Nat.le_refl _)
        have cp3 := box_cell hR3.choose_spec.2.2.1 0
        have HL3 := hid (HL.out w3 p3 hR3)
        clear p3 c3 HS3 HF cp hcl HL hR3
        go_wp2_with fail
        refine HL3.out.mono ?_
        rintro e w4 ⟨rfl, p4, r4⟩
        have HF4 := hid r4
        have cp4 := box_cell r4.choose_spec.2.2.1 0
        have hcl4 := lt_of_block r4.choose_spec.2.2.1
        have HS5 := hid (HS4.out w4 p4)
        clear p4 r4 HL3 cp3 HS4
        go_wp2_with fail
        refine HS5.out.mono ?_
        rintro e w5 ⟨rfl, p5, c5⟩
        have hR5 := HOn.out nx nx _ _ _ HF4.out c5 (Nat.le_refl _)
        have HF5 := hid (And.intro p5 hR5)
        clear p5 c5 HS5 HF4 cp4 hcl4 hR5
        have hO := HO.out
        clear HO
        cases v with
        | true =>
          rw [if_pos rfl] at hO
          subst hO
          go_wp2
          go_ret
          obtain ⟨p2, u, r1, r2, _, _, r5, _⟩ := HF5.out
          exact ⟨⟨rfl, p2, u, r1, ren_mono r2 (by omega)⟩, r5⟩
        | false =>
          rw [if_neg (by decide)] at hO
          subst hO
          go_wp2
          go_ret
          obtain ⟨p2, u, r1, r2, _, _, r5, _⟩ := HF5.out
          obtain ⟨X, n, rfl⟩ := own_shape r2
          exact ⟨⟨rfl, p2, X, _, n, r1⟩, r5⟩
end
end
end Go.Proofs.YtnbacdmlaedppaaGreatDoor
