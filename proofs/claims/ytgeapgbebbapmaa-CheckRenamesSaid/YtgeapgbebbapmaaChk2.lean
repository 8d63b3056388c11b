/-
  SCHEMAS IN MEMORY; WALKS: check.find, check.variables.
-/
import Derived.Test.YtgeapgbebbapmaaChk1
import Derived.Test.YtgeapgbebbapmaaAst12
import Derived.Test.YtgeapgbebbapmaaMap2
import Derived.Test.YtgeapgbebbapmaaRes
namespace Go.Proofs.Ytgeapgbebbapmaa
open Go.RowKit

/-- Kinds; schemas. -/
def KdsAt (w : World) (A : Option Addr) (l : List Int) : Prop :=
  0 < l.length → ∃ b o, A = some ⟨b, o, none⟩ ∧ ∀ i (h : i < l.length), w.cell? ⟨b, o + i, none⟩ = some (.int .i64 l[i])
def SchsAt (w : World) (A : Option Addr) (l : List Sch) : Prop :=
  0 < l.length → ∃ b o, A = some ⟨b, o, none⟩ ∧ ∀ i (h : i < l.length), ∃ T c, w.cell? ⟨b, o + i * 2, none⟩ = some (.string ⟨l[i].name.toArray⟩) ∧ w.cell? ⟨b, o + i * 2 + 1, none⟩ = some (.slice T l[i].kinds.length c) ∧ KdsAt w T l[i].kinds ∧ l[i].kinds.length ≤ c ∧ l[i].kinds.length ≤ 9223372036854775807
theorem KdsAt.below {w w' : World} {A : Option Addr} {l : List Int} (h : KdsAt w A l) (hb : Below w.heap.size w w') : KdsAt w' A l := fun hp => by
  obtain ⟨b, o, e, hc⟩ := h hp
  exact ⟨b, o, e, fun i hi => cell_keep hb (hc i hi)⟩
theorem SchsAt.below {w w' : World} {A : Option Addr} {l : List Sch} (h : SchsAt w A l) (hb : Below w.heap.size w w') : SchsAt w' A l := fun hp => by
  obtain ⟨b, o, e, hc⟩ := h hp
  refine ⟨b, o, e, fun i hi => ?_⟩
  obtain ⟨T, c, h0, h1, h2, h3⟩ := hc i hi
  exact ⟨T, c, cell_keep hb h0, cell_keep hb h1, h2.below hb, h3⟩

theorem infoSch : (Try.prog.info? 61).map (·.size) = some 2 := by kernel_rfl
/-- What a search for a schema gives. -/
def FoundS (x : Option Sch) (e : Ending) (w' : World) : Prop := match x with
  | some s => ∃ T ct, e = .returned (.tuple #[.agg #[.string ⟨s.name.toArray⟩, .slice T s.kinds.length ct], .bool true]) ∧ KdsAt w' T s.kinds ∧ s.kinds.length ≤ 9223372036854775807
  | none => e = .returned (.tuple #[.agg #[.string ⟨#[]⟩, .slice none 0 0], .bool false])

set_option maxRecDepth 100000 in
set_option maxHeartbeats 4000000 in
theorem chk_find (A : Option Addr) (c : Nat) (S : List Sch) (X : ByteArray) (w : World) (hs : SchsAt w A S) (hm : S.length ≤ 9223372036854775807) {x : Option Sch} (hx : findS S X.data.toList = x) :
    Calls Try.prog 37 #[.slice A S.length c, .string X] w fun e w' => FoundS x e w' ∧ Below w.heap.size w w' := by
  have HX : Hid (findS (S.drop 0) X.data.toList = x) := hid hx
  obtain ⟨n, hn⟩ : ∃ n, X.data.toList = n := ⟨_, rfl⟩
  have hXl : X.toList = n := by rw [Lib.toList_data]; exact hn
  rw [hn] at HX
  have HXl := hid hXl
  clear hx hn hXl
  have HB : Hid (Below (w.heap.size + 1) (w.alloc (.cells #[.string ⟨#[]⟩, .slice none 0 0] 61)) (w.alloc (.cells #[.string ⟨#[]⟩, .slice none 0 0] 61))) := hid (Below.refl _ _)
  go_enter Try.func37, Try.ntmps37
  go_wp2
  go_loopw [10] (fun i wr => ∃ k : Nat, k ≤ S.length ∧ i = .int .i64 k ∧ Hid (findS (S.drop k) n = x) ∧ Hid (Below (w.heap.size + 1) (w.alloc (.cells #[.string ⟨#[]⟩, .slice none 0 0] 61)) wr)) (fun i _ => S.length - (intOf i).toNat)
  case atStart => exact ⟨0, by omega, rfl, HX, HB⟩
  case round =>
    obtain ⟨k, hk, rfl, HK, HB1⟩ := hrel
    clear HX HB
    have hbel : Below w.heap.size w wr := (below_one w _).trans (HB1.out.mono (by omega))
    have hlt0 : w.heap.size < wr.heap.size := by have := HB1.out.size; simp at this; omega
    have hz := res_first HB1.out
    by_cases hlt : k < S.length
    · obtain ⟨bb, o, rfl, hc⟩ := hs (by omega)
      obtain ⟨T, ct, d0, d1, hkd, hkc, hkm⟩ := hc k hlt
      replace d0 := cell_keep hbel d0
      replace d1 := cell_keep hbel d1
      have hon := fun h => findS_on (n := n) hlt h
      have hat := fun h => findS_at (n := n) hlt h
      generalize S[k] = s at *
      obtain ⟨nme, kds⟩ := s
      simp only at *
      obtain ⟨Z, hZ, _, hZl⟩ := nm nme
      have hq := eqS hZl HXl.out
      rw [hZ] at d0
      have Hon := hid hon
      have Hat := hid hat
      have HZ := hid hZ
      clear hc hon hat hZ hZl
      by_cases he : nme = n
      · have hq2 : (Z.toList == X.toList) = true := by rw [hq]; simpa using he
        have hx : x = some ⟨nme, kds⟩ := ((Hat.out he).symm.trans HK.out).symm
        subst hx
        have hkd2 := hid hkd
        clear hq Hon Hat HK he hkd
        have hzn := res_keep' hz (below_one wr (.cells #[.string Z, .slice T kds.length ct] 61)) hlt0
        go_wp2_with (refine wpList_stored rfl rfl rfl rfl hzn infoSch rfl rfl ?_; intro w3 hz3 hb3)
        refine bodyPost_ret (by simp [results, Try.results37, go_sem, cell_res' hz3]; rfl) rfl ?_
        have hb4 := hbel.trans (((below_one wr _).mono hbel.size).trans hb3)
        exact ⟨⟨T, ct, by rw [HZ.out], hkd2.out.below hb4, hkm⟩, hb4⟩
      · have hq2 : (Z.toList == X.toList) = false := by rw [hq]; simpa using he
        have HN := hid ((Hon.out he).symm.trans HK.out)
        have HBn := hid (HB1.out.alloc (by omega) (.cells #[.string Z, .slice T kds.length ct] 61))
        clear hq Hon Hat HK he hkd HZ
        go_wp2
        go_roundw
        case rel => exact ⟨k + 1, by omega, by go_num, HN, HBn⟩
        case measure => simp [intOf]; omega
    · have hx : x = none := ((findS_end hlt).symm.trans HK.out).symm
      subst hx
      clear HK
      go_wp2_with (refine wpList_stored rfl rfl rfl rfl hz infoSch rfl rfl ?_; intro w3 hz3 hb3)
      refine bodyPost_ret (by simp [results, Try.results37, go_sem, cell_res' hz3]; rfl) rfl ?_
      exact ⟨rfl, hbel.trans hb3⟩

/-- The names of an atom's variables. -/
def vset (ts : List Trm) : Str → Prop := fun v => v ≠ [] ∧ ∃ t ∈ ts, t.v = v
theorem vset_skip {ts : List Trm} {j : Nat} (h : j < ts.length) (hs : ts[j].v = []) (v : Str) : vset (ts.take (j + 1)) v ↔ vset (ts.take j) v := by
  unfold vset
  rw [List.take_succ_eq_append_getElem h]
  constructor
  · rintro ⟨h1, t, ht, h3⟩
    rcases List.mem_append.1 ht with ht | ht
    · exact ⟨h1, t, ht, h3⟩
    · rw [List.mem_singleton.1 ht] at h3
      exact absurd (h3.symm.trans hs) h1
  · rintro ⟨h1, t, ht, h3⟩
    exact ⟨h1, t, List.mem_append_left _ ht, h3⟩
theorem vset_put {ts : List Trm} {j : Nat} (h : j < ts.length) {y : Str} (hy : ts[j].v = y) (hne : y ≠ []) (v : Str) : vset (ts.take (j + 1)) v ↔ (vset (ts.take j) v ∨ v = y) := by
  unfold vset
  rw [List.take_succ_eq_append_getElem h]
  constructor
  · rintro ⟨h1, t, ht, h3⟩
    rcases List.mem_append.1 ht with ht | ht
    · exact .inl ⟨h1, t, ht, h3⟩
    · rw [List.mem_singleton.1 ht, hy] at h3
      exact .inr h3.symm
  · rintro (⟨h1, t, ht, h3⟩ | rfl)
    · exact ⟨h1, t, List.mem_append_left _ ht, h3⟩
    · exact ⟨hne, ts[j], List.mem_append_right _ (List.mem_singleton.2 rfl), hy⟩

set_option maxRecDepth 100000 in
set_option maxHeartbeats 4000000 in
theorem chk_variables (a : Atm) (T : Option Addr) (c : Nat) (w : World) (hl : TrmsAt w T a.ts) (hm : a.ts.length ≤ 9223372036854775807) (hwf : a.wf) :
    Calls Try.prog 29 #[.agg #[.bool a.neg, .string ⟨a.rel.toArray⟩, .slice T a.ts.length c]] w fun e w' => ∃ (b n : Nat) (S : List Str), e = .returned (.map (some b)) ∧ w.heap.size ≤ b ∧ SetAt w' b n S ∧ (∀ v, v ∈ S ↔ vset a.ts v) ∧ Below w.heap.size w w' := by
  obtain ⟨neg, rel, ts⟩ := a
  have HT := hid hwf.ts
  clear hwf
  simp only at hl hm HT ⊢
  obtain ⟨Y, hY, _, _⟩ := nm rel
  rw [hY]
  have hmm := @run_makeMap Try.prog
  have hb0 := below_two w (.cells #[.bool neg, .string Y, .slice T ts.length c] 51) (.map #[] 0)
  have HM : Hid (SetAt ((w.alloc (.cells #[.bool neg, .string Y, .slice T ts.length c] 51)).alloc (.map #[] 0)) (w.heap.size + 1) 0 []) := hid (by
    have := SetAt.made (w.alloc (.cells #[.bool neg, .string Y, .slice T ts.length c] 51))
    simpa using this)
  clear hY
  go_enter Try.func29, Try.ntmps29
  go_wp2
  go_loopw [10] (fun i wr => ∃ (j m : Nat) (R : List Str), j ≤ ts.length ∧ i = .int .i64 j ∧ m ≤ j ∧ Hid (SetAt wr (w.heap.size + 1) m R) ∧ Hid (∀ v, v ∈ R ↔ vset (ts.take j) v) ∧ Below w.heap.size w wr) (fun i _ => ts.length - (intOf i).toNat)
  case atStart => exact ⟨0, 0, [], by omega, rfl, by omega, HM, hid (by simp [vset]), hb0⟩
  case round =>
    obtain ⟨j, m, R, hj, rfl, hmb, HS, HP, hbelq⟩ := hrel
    have hszq := hbelq.size
    clear HM hb0
    by_cases hjt : j < ts.length
    · obtain ⟨bb2, o2, rfl, hc2⟩ := hl (by omega)
      obtain ⟨g0, g1, g2, g3⟩ := hc2 j hjt
      replace g0 := cell_keep hbelq g0
      replace g1 := cell_keep hbelq g1
      replace g2 := cell_keep hbelq g2
      replace g3 := cell_keep hbelq g3
      have hskip := fun h v => vset_skip hjt h v
      have hput := fun y h h2 v => vset_put hjt (y := y) h h2 v
      have hvl := (HT.out ts[j] (List.getElem_mem hjt)).v
      generalize ts[j] = t at *
      obtain ⟨v, ⟨ck, cn, cs⟩⟩ := t
      simp only at *
      obtain ⟨Z, hZ, hZd, hZl⟩ := nm v
      have hno := noS hZl
      clear hZl
      rw [hZ] at g0
      have hZs := maxLen_of hZd hvl
      have HZ := hid hZd
      have hNN := hid (HS.out.alloc (.cells #[.string Z, .int .i64 ck, .int .i64 cn, .string cs] 81))
      have hbN := hbelq.alloc hszq (.cells #[.string Z, .int .i64 ck, .int .i64 cn, .string cs] 81)
      have Hput := hid hput
      have Hskip := hid hskip
      clear hc2 hZ hput hskip HS hZd
      by_cases hv : v = []
      · have hz : Z.toList.isEmpty = true := by rw [hno]; simpa using hv
        have HN : Hid (∀ v, v ∈ R ↔ vset (ts.take (j + 1)) v) := hid (fun v' => (HP.out v').trans (Hskip.out hv v').symm)
        clear hno hv Hput Hskip HP
        go_wp2
        go_roundw
        case rel => exact ⟨j + 1, m, R, by omega, by go_num, by omega, hNN, HN, hbN⟩
        case measure => simp [intOf]; omega
      · have hz : Z.toList.isEmpty = false := by rw [hno]; simpa using hv
        have HN : Hid (∀ v', v' ∈ R ++ [v] ↔ vset (ts.take (j + 1)) v') := hid (fun v' => by rw [Hput.out v rfl hv v', ← HP.out v']; simp)
        clear hno hv Hput Hskip HP
        go_wp2_with (at_mapUpdate; refine wpList_put rfl _ _ _ rfl hNN.out Try.underlying9 Try.underlying59 (by unfold maxLen; omega) rfl Z rfl hZs true rfl EB_true ?_; intro w2 hmap2 hg2)
        rw [HZ.out, setF_put] at hmap2
        have hb2 := hbN.grown hg2 hbN.size (fun j hj => by injection hj; omega)
        go_roundw
        case rel => exact ⟨j + 1, m + 1, R ++ [v], by omega, by go_num, by omega, hid hmap2, HN, hb2⟩
        case measure => simp [intOf]; omega
    · have hjn : ts.take j = ts := List.take_of_length_le (by omega)
      have HN : Hid (∀ v, v ∈ R ↔ vset ts v) := hid (fun v => by rw [HP.out v, hjn])
      clear HP hjn
      go_wp2
      go_ret
      exact ⟨w.heap.size + 1, m, R, rfl, by omega, HS.out, HN.out, hbelq⟩

/-- Guards, place by place. -/
theorem guards_iff (a b : Atm) : guardsB a b = true ↔ b.neg = false ∧ ∀ v, vset a.ts v → vset b.ts v := by
  unfold guardsB vset
  simp only [Bool.and_eq_true, Bool.not_eq_true', List.all_eq_true, Bool.or_eq_true, beq_iff_eq, List.any_eq_true]
  constructor
  · rintro ⟨h1, h2⟩
    refine ⟨h1, ?_⟩
    rintro v ⟨hv, t, ht, rfl⟩
    rcases h2 t ht with h | ⟨u, hu, h⟩
    · exact absurd h hv
    · exact ⟨hv, u, hu, h⟩
  · rintro ⟨h1, h2⟩
    refine ⟨h1, fun t ht => ?_⟩
    by_cases h : t.v = []
    · exact .inl h
    · obtain ⟨_, u, hu, h3⟩ := h2 t.v ⟨h, t, ht, rfl⟩
      exact .inr ⟨u, hu, h3⟩
def guardFrom (l : List Atm) (a : Atm) (k : Nat) : Option Nat := ((l.drop k).findIdx? (guardsB a)).map (· + k)
theorem guardFrom_zero (l : List Atm) (a : Atm) : guardFrom l a 0 = guardG l a := by unfold guardFrom guardG; simp
theorem guardFrom_on {l : List Atm} {a : Atm} {k : Nat} (h : k < l.length) (h0 : guardsB a l[k] = false) : guardFrom l a k = guardFrom l a (k + 1) := by
  unfold guardFrom
  rw [List.drop_eq_getElem_cons h, List.findIdx?_cons, h0]
  simp only [Bool.false_eq_true, if_false, Option.map_map]
  congr 1
  funext x; simp; omega
theorem guardFrom_at {l : List Atm} {a : Atm} {k : Nat} (h : k < l.length) (h0 : guardsB a l[k] = true) : guardFrom l a k = some k := by
  unfold guardFrom
  rw [List.drop_eq_getElem_cons h, List.findIdx?_cons, h0]; simp
theorem guardFrom_end {l : List Atm} {a : Atm} {k : Nat} (h : ¬ k < l.length) : guardFrom l a k = none := by
  unfold guardFrom
  rw [List.drop_eq_nil_of_le (by omega)]; rfl
def gRes : Option Nat → Int × Int
  | some n => (n, 0)
  | none => (0, 23)
/-- What Guard returns. -/
def guardR (r : Rul) (i : Int) : Int × Int := if i < 0 ∨ r.atoms.length ≤ i then (0, 3) else
  match r.atoms[i.toNat]? with
  | none => (0, 3)
  | some a => if a.neg = false then (0, 2) else gRes (guardG r.atoms a)
end Go.Proofs.Ytgeapgbebbapmaa
