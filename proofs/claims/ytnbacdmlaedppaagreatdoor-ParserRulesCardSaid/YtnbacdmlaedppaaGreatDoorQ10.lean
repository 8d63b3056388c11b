/-
  PARTS of a claim, merged by segs.py: Ast8, Ast9.
-/
import Derived.Test.YtnbacdmlaedppaaGreatDoorQ08
import Derived.Test.YtnbacdmlaedppaaGreatDoorQ09
import Derived.Test.YtnbacdmlaedppaaGreatDoorQ07
import Derived.OneCell
import Derived.OwnWalk
import Derived.KernelRfl
namespace Go.Proofs.YtnbacdmlaedppaaGreatDoor

/-! ### Ast8 -/
section
open Go.RowKit

theorem EB_ok : EB.Ok Tryz.prog 4 := EB.ok Tryz.underlying4 Tryz.zeroValue4
theorem EB_true : plainElem (H := Unit) Tryz.prog 4 (EB.R true) = some (.lit (EB.L true), []) := plainElem_bool Tryz.underlying4 true
/-- A set of names in memory. -/
def SetAt (w : World) (b n : Nat) (S : List Str) : Prop := MapAt Tryz.prog 4 9 EB w b n (setF S)
theorem SetAt.made (w : World) : SetAt (w.alloc (.map #[] 0)) w.heap.size 0 [] := by
  have h := MapAt.made (P := Tryz.prog) (e := 4) (k := 9) (E := EB) w
  rw [setF_nil] at h
  exact h

/-- A rule within the limits. -/
structure Rul.few (r : Rul) : Prop where
  a : r.atoms.length ≤ 8
  c : r.conds.length ≤ 8
  t : ∀ a ∈ r.atoms, a.ts.length ≤ 6
theorem few_of_items {r : Rul} (h : itemsE r = 0) : r.few := by
  unfold itemsE at h
  by_cases h0 : r.atoms = []
  · rw [if_pos h0] at h; exact absurd h (by decide)
  · rw [if_neg h0] at h
    by_cases h8 : 8 < r.atoms.length ∨ 8 < r.conds.length
    · rw [if_pos h8] at h; exact absurd h (by decide)
    · rw [if_neg h8] at h
      refine ⟨by omega, by omega, fun a ha => ?_⟩
      by_cases h1 : firstE atomE r.atoms = 0
      · have h2 := firstE_zero h1 a ha
        unfold atomE at h2
        split at h2
        · exact absurd h2 (by decide)
        · split at h2
          · exact absurd h2 (by decide)
          · omega
      · rw [if_neg h1] at h
        exact absurd h h1

/-- The names bound in the first atoms, and in the first terms of one more. -/
def PosIn (ats : List Atm) (v : Str) : Prop := v ≠ [] ∧ ∃ a ∈ ats, a.neg = false ∧ ∃ t ∈ a.ts, t.v = v
def PosIn2 (ats : List Atm) (neg : Bool) (ts : List Trm) (v : Str) : Prop := PosIn ats v ∨ (v ≠ [] ∧ neg = false ∧ ∃ t ∈ ts, t.v = v)
theorem posIn2_nil (ats : List Atm) (neg : Bool) (v : Str) : PosIn2 ats neg [] v ↔ PosIn ats v := by
  unfold PosIn2; simp
theorem posIn_succ {ats : List Atm} {k : Nat} (h : k < ats.length) {a : Atm} (ha : ats[k] = a) (v : Str) : PosIn (ats.take (k + 1)) v ↔ PosIn2 (ats.take k) a.neg a.ts v := by
  unfold PosIn2 PosIn
  rw [List.take_succ_eq_append_getElem h, ha]
  constructor
  · rintro ⟨h1, b, hb, h2⟩
    rcases List.mem_append.1 hb with hb | hb
    · exact .inl ⟨h1, b, hb, h2⟩
    · rw [List.mem_singleton.1 hb] at h2
      exact .inr ⟨h1, h2⟩
  · rintro (⟨h1, b, hb, h2⟩ | ⟨h1, h2⟩)
    · exact ⟨h1, b, List.mem_append_left _ hb, h2⟩
    · exact ⟨h1, a, by simp, h2⟩
theorem posIn2_skip {ats : List Atm} {neg : Bool} {ts : List Trm} {j : Nat} (h : j < ts.length) (hs : neg = true ∨ ts[j].v = []) (v : Str) : PosIn2 ats neg (ts.take (j + 1)) v ↔ PosIn2 ats neg (ts.take j) v := by
  unfold PosIn2
  rw [List.take_succ_eq_append_getElem h]
  constructor
  · rintro (h1 | ⟨h1, h2, t, ht, h3⟩)
    · exact .inl h1
    · rcases List.mem_append.1 ht with ht | ht
      · exact .inr ⟨h1, h2, t, ht, h3⟩
      · rw [List.mem_singleton.1 ht] at h3
        rcases hs with hs | hs
        · rw [h2] at hs; cases hs
        · exact absurd (h3.symm.trans hs) h1
  · rintro (h1 | ⟨h1, h2, t, ht, h3⟩)
    · exact .inl h1
    · exact .inr ⟨h1, h2, t, List.mem_append_left _ ht, h3⟩
theorem posIn2_put {ats : List Atm} {ts : List Trm} {j : Nat} (h : j < ts.length) {y : Str} (hy : ts[j].v = y) (hne : y ≠ []) (v : Str) : PosIn2 ats false (ts.take (j + 1)) v ↔ (PosIn2 ats false (ts.take j) v ∨ v = y) := by
  unfold PosIn2
  rw [List.take_succ_eq_append_getElem h]
  constructor
  · rintro (h1 | ⟨h1, h2, t, ht, h3⟩)
    · exact .inl (.inl h1)
    · rcases List.mem_append.1 ht with ht | ht
      · exact .inl (.inr ⟨h1, h2, t, ht, h3⟩)
      · rw [List.mem_singleton.1 ht, hy] at h3
        exact .inr h3.symm
  · rintro ((h1 | ⟨h1, h2, t, ht, h3⟩) | rfl)
    · exact .inl h1
    · exact .inr ⟨h1, h2, t, List.mem_append_left _ ht, h3⟩
    · exact .inr ⟨hne, rfl, ts[j], List.mem_append_right _ (List.mem_singleton.2 rfl), hy⟩
theorem posIn_bound (r : Rul) (v : Str) (hv : v ≠ []) : PosIn r.atoms v ↔ boundB r v = true := by
  unfold PosIn boundB
  simp only [List.any_eq_true, Bool.and_eq_true, Bool.not_eq_true', beq_iff_eq]
  constructor
  · rintro ⟨_, a, ha, h1, t, ht, h2⟩
    exact ⟨a, ha, h1, t, ht, h2⟩
  · rintro ⟨a, ha, h1, t, ht, h2⟩
    exact ⟨hv, a, ha, h1, t, ht, h2⟩

set_option maxRecDepth 100000 in
set_option maxHeartbeats 8000000 in
theorem ast_positive (r : Rul) (T T' : Option Addr) (c c' : Nat) (w : World) (ha : AtmsAt w T r.atoms) (hf : r.few) (hwf : r.wf) :
    Calls Tryz.prog 62 #[.agg #[.slice T r.atoms.length c, .slice T' r.conds.length c']] w fun e w' => ∃ (b n : Nat) (S : List Str), e = .returned (.map (some b)) ∧ w.heap.size ≤ b ∧ SetAt w' b n S ∧ (∀ v, v ∈ S ↔ PosIn r.atoms v) ∧ Below w.heap.size w w' := by
  obtain ⟨ats, cds⟩ := r
  obtain ⟨f1, _, f3⟩ := hf
  have hw0 := hwf.atoms
  simp only at f1 f3 hw0 ha ⊢
  have F3 := hid f3
  have HW := hid hw0
  clear f3 hw0 hwf
  have hmm := @run_makeMap Tryz.prog
  have hb0 := below_two w (.cells #[.slice T ats.length c, .slice T' cds.length c'] 42) (.map #[] 0)
  have hmade : SetAt ((w.alloc (.cells #[.slice T ats.length c, .slice T' cds.length c'] 42)).alloc (.map #[] 0)) (w.heap.size + 1) 0 [] := by
    have := SetAt.made (w.alloc (.cells #[.slice T ats.length c, .slice T' cds.length c'] 42))
    simpa using this
  have HM := hid hmade
  clear hmade
  go_enter Tryz.func62, Tryz.ntmps62
  go_wp2
  go_loopw [12] (fun i wr => ∃ (k n : Nat) (S : List Str), k ≤ ats.length ∧ i = .int .i64 k ∧ n ≤ k * 6 ∧ Hid (SetAt wr (w.heap.size + 1) n S) ∧ Hid (∀ v, v ∈ S ↔ PosIn (ats.take k) v) ∧ Below w.heap.size w wr) (fun i _ => ats.length - (intOf i).toNat)
  case atStart => exact ⟨0, 0, [], by omega, rfl, by omega, HM, hid (by simp [PosIn]), hb0⟩
  case round =>
    obtain ⟨k, n, S, hk, rfl, hn, HS, HP, hbel⟩ := hrel
    obtain ⟨wo, rfl⟩ : ∃ wo : World, wo = wr := ⟨_, rfl⟩
    have hsz := hbel.size
    clear HM hb0
    by_cases hlt : k < ats.length
    · obtain ⟨bb, o, rfl, hc⟩ := ha (by omega)
      obtain ⟨Q, qc, d0, d1, d2, hq, hql, hqm⟩ := hc k hlt
      replace d0 := cell_keep hbel d0
      replace d1 := cell_keep hbel d1
      replace d2 := cell_keep hbel d2
      have hsuc := fun a h v => posIn_succ (a := a) hlt h v
      have h6 := F3.out ats[k] (List.getElem_mem hlt)
      have hwa := HW.out ats[k] (List.getElem_mem hlt)
      obtain ⟨a, ea⟩ : ∃ a, ats[k] = a := ⟨_, rfl⟩
      have hsuc := hid (hsuc a ea)
      rw [ea] at d0 d1 d2 hq hql hqm h6 hwa
      clear ea hc
      obtain ⟨neg, rel, ts⟩ := a
      have HT := hid hwa.ts
      clear hwa
      simp only at *
      obtain ⟨Y, hY, _, _⟩ := nm rel
      rw [hY] at d1
      have hmN : Hid (SetAt (wo.alloc (.cells #[.bool neg, .string Y, .slice Q ts.length qc] 111)) (w.heap.size + 1) n S) := hid (HS.out.alloc _)
      have hlt1 : w.heap.size + 1 < wo.heap.size := HS.out.lt
      have hP0 : Hid (∀ v, v ∈ S ↔ PosIn2 (ats.take k) neg (ts.take 0) v) := hid (fun v => (HP.out v).trans (by rw [List.take_zero, posIn2_nil]))
      have hbN := hbel.alloc hsz (.cells #[.bool neg, .string Y, .slice Q ts.length qc] 111)
      clear HS HP hY
      go_wp2
      go_loopw [19] (fun i wr => ∃ (j m : Nat) (R : List Str), j ≤ ts.length ∧ i = .int .i64 j ∧ m ≤ k * 6 + j ∧ Hid (SetAt wr (w.heap.size + 1) m R) ∧ Hid (∀ v, v ∈ R ↔ PosIn2 (ats.take k) neg (ts.take j) v) ∧ Below w.heap.size w wr ∧ wr.cell? ⟨wo.heap.size, 0, none⟩ = some (.bool neg) ∧ wo.heap.size < wr.heap.size) (fun i _ => ts.length - (intOf i).toNat)
      case atStart => exact ⟨0, n, S, by omega, rfl, by omega, hmN, hP0, hbN, by simp, by simp⟩
      case round =>
        obtain ⟨j, m, R, hj, rfl, hmb, HS, HP, hbelq, e0, hq1⟩ := hrel
        have hszq := hbelq.size
        clear hmN hP0 hbN
        by_cases hjt : j < ts.length
        · obtain ⟨bb2, o2, rfl, hc2⟩ := hq (by omega)
          obtain ⟨g0, g1, g2, g3⟩ := hc2 j hjt
          replace g0 := cell_keep hbelq g0
          replace g1 := cell_keep hbelq g1
          replace g2 := cell_keep hbelq g2
          replace g3 := cell_keep hbelq g3
          have hskip := fun h v => posIn2_skip (ats := ats.take k) (neg := neg) hjt h v
          have hput := fun y h h2 v => posIn2_put (ats := ats.take k) hjt (y := y) h h2 v
          have hvl := (HT.out ts[j] (List.getElem_mem hjt)).v
          generalize ts[j] = t at *
          obtain ⟨v, ⟨ck, cn, cs⟩⟩ := t
          simp only at *
          obtain ⟨Z, hZ, hZd, hZl⟩ := nm v
          have hno := noS hZl
          clear hZl
          rw [hZ] at g0
          have hZs : Z.size ≤ maxLen := by
            have : Z.data.toList.length = Z.size := by simp
            rw [hZd] at this
            unfold maxLen; omega
          have hmN := HS.out.alloc (.cells #[.string Z, .int .i64 ck, .int .i64 cn, .string cs] 146)
          have hbN := hbelq.alloc hszq (.cells #[.string Z, .int .i64 ck, .int .i64 cn, .string cs] 146)
          have e0N := cell_keep (below_one wr (.cells #[.string Z, .int .i64 ck, .int .i64 cn, .string cs] 146)) e0
          have HZ := hid hZd
          clear hZd
          have hNN := hid hmN
          have Hput := hid hput
          have Hskip := hid hskip
          clear hc2 hZ hput hskip hmN HS
          cases neg
          · by_cases hv : v = []
            · have hz : Z.toList.isEmpty = true := by rw [hno]; simpa using hv
              have HN : Hid (∀ v, v ∈ R ↔ PosIn2 (ats.take k) false (ts.take (j + 1)) v) := hid (fun v' => (HP.out v').trans (Hskip.out (.inr hv) v').symm)
              clear hno hv Hput Hskip HP
              go_wp2
              go_roundw
              case rel => exact ⟨j + 1, m, R, by omega, by go_num, by omega, hNN, HN, hbN, e0N, by simp; omega⟩
              case measure => simp [intOf]; omega
            · have hz : Z.toList.isEmpty = false := by rw [hno]; simpa using hv
              have HN : Hid (∀ v', v' ∈ R ++ [v] ↔ PosIn2 (ats.take k) false (ts.take (j + 1)) v') := hid (fun v' => by
                rw [Hput.out v rfl hv v', ← HP.out v']; simp)
              clear hno hv Hput Hskip HP
              go_wp2_with (at_mapUpdate; refine wpList_put rfl _ _ _ rfl hNN.out Tryz.underlying9 Tryz.underlying120 (by unfold maxLen; omega) rfl Z rfl hZs true rfl EB_true ?_; intro w2 hmap2 hg2)
              rw [HZ.out, setF_put] at hmap2
              have hb2 := hbN.grown hg2 hbN.size (fun j hj => by injection hj; omega)
              have e2 := hg2.cell e0N (by simp; omega)
              have hs2 := hg2.size
              go_roundw
              case rel => exact ⟨j + 1, m + 1, R ++ [v], by omega, by go_num, by omega, hid hmap2, HN, hb2, e2, by simp at hs2; omega⟩
              case measure => simp [intOf]; omega
          · have HN : Hid (∀ v, v ∈ R ↔ PosIn2 (ats.take k) true (ts.take (j + 1)) v) := hid (fun v' => (HP.out v').trans (Hskip.out (.inl rfl) v').symm)
            clear hno Hput Hskip HP
            go_wp2
            go_roundw
            case rel => exact ⟨j + 1, m, R, by omega, by go_num, by omega, hNN, HN, hbN, e0N, by simp; omega⟩
            case measure => simp [intOf]; omega
        · have hjn : ts.take j = ts := List.take_of_length_le (by omega)
          have HN : Hid (∀ v, v ∈ R ↔ PosIn (ats.take (k + 1)) v) := hid (fun v => by rw [HP.out v, hjn, hsuc.out v])
          clear HP hjn
          go_wp2
          go_roundw
          case rel => exact ⟨k + 1, m, R, by omega, by go_num, by omega, HS, HN, hbelq⟩
          case measure => simp [intOf]; omega
    · have hkn : ats.take k = ats := List.take_of_length_le (by omega)
      have HN : Hid (∀ v, v ∈ S ↔ PosIn ats v) := hid (fun v => by rw [HP.out v, hkn])
      clear HP hkn
      go_wp2
      go_ret
      exact ⟨w.heap.size + 1, n, S, rfl, by omega, HS.out, HN.out, hbel⟩

/-- A name as a value. -/
def nmV (l : Str) : Value := .string ⟨l.toArray⟩
theorem infoStr : (Tryz.prog.info? 9).map (fun i => (i.zero, i.size, i.bytes)) = some (some (.string ⟨#[]⟩), 1, 16) := by kernel_rfl

theorem own_slice1 {w : World} {B : Nat} {e : TypeId} {z : Nat} {v : Value} {n : Nat} {xs : List Value} (h : w.ownsRow B e z v (n + 1) xs) : ∃ g cap, v = .slice (some ⟨g, 0, none⟩) (n + 1) cap := by
  rcases h.2 with ⟨_, h0⟩ | ⟨g, cap, cur, h1, _⟩
  · omega
  · exact ⟨g, cap, h1⟩
/-- What the closure of Vars works on: the set of the names seen (the empty one too), and the names in their order. -/
structure VInv (w : World) (Bs Bv bm base n : Nat) (acc : List Str) : Prop where
  s : w.heap[Bs]? = some (.cells #[.map (some bm)] 120 (0, 0))
  v : ∃ u, w.heap[Bv]? = some (.cells #[u] 23 (0, 0)) ∧ w.ownsRow base 9 1 u acc.length (acc.map nmV)
  m : SetAt w bm n ([] :: acc)
  d : Bs ≠ Bv ∧ bm ≠ Bs ∧ bm ≠ Bv ∧ Bs < base ∧ Bv < base ∧ bm < base ∧ base ≤ w.heap.size
theorem VInv.below {w w' : World} {Bs Bv bm base n : Nat} {acc : List Str} (h : VInv w Bs Bv bm base n acc) (hb : Below w.heap.size w w') : VInv w' Bs Bv bm base n acc := by
  obtain ⟨h1, ⟨u, h2, h3⟩, h4, h5⟩ := h
  refine ⟨(hb.block _ (lt_of_block h1)).trans h1, ⟨u, (hb.block _ (lt_of_block h2)).trans h2, ?_⟩, h4.below hb, by have := hb.size; omega⟩
  obtain ⟨hl, h0 | ⟨g, cap, cur, hv, hB, hh, r⟩⟩ := h3
  · exact ⟨hl, .inl h0⟩
  · exact ⟨hl, .inr ⟨g, cap, cur, hv, hB, (hb.block g (lt_of_block hh)).trans hh, r⟩⟩
theorem addN_old {acc : List Str} {v : Str} (h : v ∈ [] :: acc) : addN acc v = acc := by
  unfold addN
  rw [if_pos (by simpa using h)]
theorem addN_new {acc : List Str} {v : Str} (h : v ∉ [] :: acc) : addN acc v = acc ++ [v] := by
  unfold addN
  rw [if_neg (by simpa using h)]

set_option maxRecDepth 100000 in
set_option maxHeartbeats 4000000 in
theorem vars_add (X : ByteArray) (Bs Bv bm base n : Nat) (acc : List Str) (w : World) (h : VInv w Bs Bv bm base n acc) (hn : n ≤ 100000) (hacc : acc.length ≤ 100000) (hX : X.size ≤ maxLen) {B : Nat} (hB : B ≤ Bs ∧ B ≤ Bv ∧ B ≤ bm) :
    Calls Tryz.prog 90 #[.string X, .pointer (some ⟨Bs, 0, none⟩), .pointer (some ⟨Bv, 0, none⟩)] w fun e w' => e = .returned (.tuple #[]) ∧ VInv w' Bs Bv bm base (n + 1) (addN acc X.data.toList) ∧ Below B w w' := by
  obtain ⟨h1, ⟨u, h2, h3⟩, h4, d1, d2, d3, d4, d5, d6, d7⟩ := h
  obtain ⟨i0, hi, hz0, hz1, hz2⟩ := info_parts infoStr
  obtain ⟨x, hx⟩ : ∃ x, X.data.toList = x := ⟨_, rfl⟩
  rw [hx]
  have c1 := cell_of_one h1
  have c2 := cell_of_one h2
  have HX := hid hx
  have H1 := hid h1
  have H2 := hid h2
  have H3 := hid h3
  have H4 := hid h4
  clear hx h1 h2 h3 h4
  by_cases hm : x ∈ [] :: acc
  · have hs : (setF ([] :: acc) X.data.toList).getD false = true := by rw [HX.out, setF_get]; simpa using hm
    have hv : EB.R ((setF ([] :: acc) X.data.toList).getD false) = .bool true := by rw [hs]; rfl
    have ha := addN_old hm
    have HV := hid hv
    have HA := hid ha
    clear hs hm hv ha
    go_enter Tryz.func90, Tryz.ntmps90
    go_wp2_with (at_lookup; refine wpList_look rfl _ _ rfl H4.out EB_ok Tryz.underlying9 Tryz.underlying120 rfl X rfl hX (.bool true) HV.out ?_)
    go_end0
    refine ⟨rfl, ?_, Below.refl _ _⟩
    rw [HA.out]
    exact ⟨H1.out, ⟨u, H2.out, H3.out⟩, H4.out.mono (by omega), d1, d2, d3, d4, d5, d6, d7⟩
  · have hs : (setF ([] :: acc) X.data.toList).getD false = false := by rw [HX.out, setF_get]; simpa using hm
    have hv : EB.R ((setF ([] :: acc) X.data.toList).getD false) = .bool false := by rw [hs]; rfl
    have ha := addN_new hm
    have HV := hid hv
    have HA := hid ha
    have HNm := hid hm
    clear hs hm hv ha
    go_enter Tryz.func90, Tryz.ntmps90
    go_wp2_with (first
      | (at_lookup; refine wpList_look rfl _ _ rfl H4.out EB_ok Tryz.underlying9 Tryz.underlying120 rfl X rfl hX (.bool false) HV.out ?_)
      | (at_mapUpdate; refine wpList_put rfl _ _ _ rfl H4.out Tryz.underlying9 Tryz.underlying120 (by unfold maxLen; omega) rfl X rfl hX true rfl EB_true ?_; intro w2 hmap2 hg2; have e1 := (hg2.block Bs (lt_of_block H1.out) (by simp; omega)).trans H1.out; have e2 := (hg2.block Bv (lt_of_block H2.out) (by simp; omega)).trans H2.out; have f2 := cell_of_one e2; have g2 := free_of_one e2; have E1 := hid e1; have E2 := hid e2; clear e1 e2; have hown2 := hid (H3.out.kept hg2 (Or.inr (fun e => by have := (H3.out.lt bm e).1; omega))))
      | (at_builtin; refine wpList_append_new2 Tryz.underlying23 hi hz0 hz1 hz2 rfl (by decide) (by decide) rfl rfl rfl hown2.out rfl (by simp) rfl rfl (by omega) (Nat.le_trans d7 hg2.size) ?_; intro v3 w3 hown3 hg3; obtain ⟨g3, cap3, rfl⟩ := own_slice1 hown3; have hl0 := lt_of_block E2.out; have q2 := (hg3.block Bv hl0 (fun e => by have := (hown2.out.lt Bv e.symm).1; omega)).trans E2.out; have r2 := cell_of_one q2; have s2 := free_of_one q2; have Q2 := hid q2; have Q1 := hid ((hg3.block Bs (lt_of_block E1.out) (fun e => by have := (hown2.out.lt Bs e.symm).1; omega)).trans E1.out); clear q2))
    go_end0
    have hm3 : MapAt Tryz.prog 4 9 EB w3 bm (n + 1) (updF (setF ([] :: acc)) X.data.toList true) := hmap2.kept hg3 (fun e => by have := (hown2.out.lt bm e.symm).1; omega)
    rw [HX.out, setF_put] at hm3
    refine ⟨rfl, ?_, ?_⟩
    · rw [HA.out]
      refine ⟨?_, ⟨_, one_setCell Q2.out, ?_⟩, ?_, d1, d2, d3, d4, d5, d6, ?_⟩
      · rw [Below.heap_setCell _ _ _ _ (by show Bs ≠ Bv; exact d1)]; exact Q1.out
      · rw [List.length_append, List.map_append]
        have hX2 : nmV x = .string X := by rw [← HX.out]; rfl
        rw [List.map_singleton, hX2]
        refine ownsRow_setCell_other hown3 (fun e => ?_) _
        have e := (hown3.lt Bv e).1
        omega
      · exact hm3.same (Below.heap_setCell _ _ _ _ (by show bm ≠ Bv; exact d3))
      · have h1 := hg2.size
        have h2 := hg3.size
        show base ≤ (w3.setCell _ _).heap.size
        simp [World.setCell]; omega
    · exact (((Below.refl B w).grown hg2 (by omega) (fun j hj => by injection hj; omega)).grown hg3 (by have := hg2.size; omega) (fun j hj => by have := (hown2.out.lt j hj).1; omega)).setCell (by show B ≤ Bv; omega) _
end

/-! ### Ast9 -/
section
open Go.RowKit

theorem own_names {w : World} {B : Nat} {u : Value} {l : List Str} (h : w.ownsRow B 9 1 u l.length (l.map nmV)) : ∃ A c, u = .slice A l.length c ∧ NmsAt w A l ∧ l.length ≤ c := by
  have h2 := h
  rcases h.2 with ⟨rfl, h0⟩ | ⟨g, cap, cur, rfl, _, _, hn, _⟩
  · exact ⟨none, 0, by rw [h0], fun hp => absurd hp (by omega), by omega⟩
  · refine ⟨_, cap, rfl, fun _ => ⟨g, 0, rfl, fun i hi => ?_⟩, hn⟩
    rw [h2.cellAt (0 + i) (by omega)]
    simp [nmV, hi]
/-- The names that are still to come. -/
theorem vars_start (r : Rul) : ((r.atoms.drop 0).flatMap atomVs ++ r.conds.map (·.v)).foldl addN [] = varsL r := rfl
theorem vars_atom {ats : List Atm} {k : Nat} (h : k < ats.length) {a : Atm} (ha : ats[k] = a) (Z : List Str) : (ats.drop k).flatMap atomVs ++ Z = (a.ts.drop 0).map (·.v) ++ ((ats.drop (k + 1)).flatMap atomVs ++ Z) := by
  rw [List.drop_eq_getElem_cons h, ha, List.flatMap_cons, List.append_assoc]; rfl
theorem vars_term {ts : List Trm} {j : Nat} (h : j < ts.length) {t : Trm} (ht : ts[j] = t) (Z acc : List Str) : ((ts.drop j).map (·.v) ++ Z).foldl addN acc = ((ts.drop (j + 1)).map (·.v) ++ Z).foldl addN (addN acc t.v) := by
  rw [List.drop_eq_getElem_cons h, ht]; rfl
theorem vars_term_end {ts : List Trm} {j : Nat} (h : ¬ j < ts.length) (Z acc : List Str) : ((ts.drop j).map (·.v) ++ Z).foldl addN acc = Z.foldl addN acc := by
  rw [List.drop_eq_nil_of_le (by omega)]; rfl
theorem vars_atom_end {ats : List Atm} {k : Nat} (h : ¬ k < ats.length) (cs : List Cnd) (acc : List Str) : ((ats.drop k).flatMap atomVs ++ cs.map (·.v)).foldl addN acc = ((cs.drop 0).map (·.v)).foldl addN acc := by
  rw [List.drop_eq_nil_of_le (by omega)]; rfl
theorem vars_cond {cs : List Cnd} {j : Nat} (h : j < cs.length) {c : Cnd} (hc : cs[j] = c) (acc : List Str) : ((cs.drop j).map (·.v)).foldl addN acc = ((cs.drop (j + 1)).map (·.v)).foldl addN (addN acc c.v) := by
  rw [List.drop_eq_getElem_cons h, hc]; rfl
theorem vars_cond_end {cs : List Cnd} {j : Nat} (h : ¬ j < cs.length) (acc : List Str) : ((cs.drop j).map (·.v)).foldl addN acc = acc := by
  rw [List.drop_eq_nil_of_le (by omega)]; rfl
theorem addN_len (acc : List Str) (v : Str) : (addN acc v).length ≤ acc.length + 1 := by
  unfold addN; split <;> simp
theorem maxLen_of {Z : ByteArray} {v : Str} (h : Z.data.toList = v) (hv : v.length ≤ 9223372036854775807) : Z.size ≤ maxLen := by
  have : Z.data.toList.length = Z.size := by simp
  rw [h] at this
  unfold maxLen; omega

set_option maxRecDepth 100000 in
set_option maxHeartbeats 8000000 in
theorem ast_vars (r : Rul) (T T' : Option Addr) (c c' : Nat) (w : World) (ha : AtmsAt w T r.atoms) (hcn : CndsAt w T' r.conds) (hf : r.few) (hwf : r.wf) {x : List Str} (hx : varsL r = x) :
    Calls Tryz.prog 61 #[.agg #[.slice T r.atoms.length c, .slice T' r.conds.length c']] w fun e w' => ∃ u B, e = .returned u ∧ w.heap.size ≤ B ∧ w'.ownsRow B 9 1 u x.length (x.map nmV) ∧ Below w.heap.size w w' := by
  have HX : Hid (((r.atoms.drop 0).flatMap atomVs ++ r.conds.map (·.v)).foldl addN [] = x) := hid hx
  clear hx
  obtain ⟨ats, cds⟩ := r
  obtain ⟨f1, f2, f3⟩ := hf
  have hw0 := hwf.atoms
  have hw1 := hwf.conds
  simp only at f1 f2 f3 hw0 hw1 ha hcn HX ⊢
  have F3 := hid f3
  have HW := hid hw0
  have HC := hid hw1
  clear f3 hw0 hw1 hwf
  have hmm := @run_makeMap Tryz.prog
  have hmf : ∀ (fn : Fn) (first cap : Array Value) (w : World), (Instr.makeFunc fn first cap).run Tryz.prog w = .ok (.func fn first cap) w := fun _ _ _ _ => rfl
  have hmade : SetAt ((((w.alloc (.cells #[.slice T ats.length c, .slice T' cds.length c'] 42)).alloc (.cells #[.slice none 0 0] 23)).alloc (.map #[] 0))) (w.heap.size + 1 + 1) 0 [] := by
    have := SetAt.made ((w.alloc (.cells #[.slice T ats.length c, .slice T' cds.length c'] 42)).alloc (.cells #[.slice none 0 0] 23))
    simpa using this
  have HM := hid hmade
  clear hmade
  have g0 : Hid ((((w.alloc (.cells #[.slice T ats.length c, .slice T' cds.length c'] 42)).alloc (.cells #[.slice none 0 0] 23)).alloc (.map #[] 0)).cell? ⟨w.heap.size, 0, none⟩ = some (.slice T ats.length c)) := hid (cell_keep (below_one _ _) (cell_keep (below_one _ _) (by simp)))
  have g1 : Hid ((((w.alloc (.cells #[.slice T ats.length c, .slice T' cds.length c'] 42)).alloc (.cells #[.slice none 0 0] 23)).alloc (.map #[] 0)).cell? ⟨w.heap.size, 1, none⟩ = some (.slice T' cds.length c')) := hid (cell_keep (below_one _ _) (cell_keep (below_one _ _) (by simp)))
  have hne1 : some w.heap.size ≠ some (w.heap.size + 1 + 1) := fun e => by injection e; omega
  go_enter Tryz.func61, Tryz.ntmps61
  go_wp2_with (refine wpList_insert rfl _ _ _ rfl HM.out Tryz.underlying9 Tryz.underlying120 (by decide) rfl ⟨#[]⟩ rfl (by decide) true rfl EB_true ?_; intro w2 hmap2 hg2; have e0 := hg2.cell g0.out hne1; have e1 := hg2.cell g1.out hne1; have hw2 : w.heap.size < w2.heap.size := by (have := hg2.size; simp only [World.size_alloc] at this; omega))
  have hsz2 := hg2.size
  simp only [World.size_alloc] at hsz2
  have hbb : Below (w.heap.size + 1) (w.alloc (.cells #[.slice T ats.length c, .slice T' cds.length c'] 42)) (w2.alloc (.cells #[.map (some (w.heap.size + 1 + 1))] 120)) :=
    (((((Below.refl _ _).alloc (by simp) _).alloc (by first | (simp; done) | (simp; omega)) _).grown hg2 (by first | (simp; done) | (simp; omega)) (fun j hj => by injection hj; omega)).alloc (by omega) _)
  have hvi : VInv (w2.alloc (.cells #[.map (some (w.heap.size + 1 + 1))] 120)) w2.heap.size (w.heap.size + 1) (w.heap.size + 1 + 1) (w2.heap.size + 1) 1 [] := by
    have hm2 := hmap2.alloc (.cells #[.map (some (w.heap.size + 1 + 1))] 120)
    rw [setF_put] at hm2
    refine ⟨heap_alloc_new _ _, ⟨.slice none 0 0, ?_, World.ownsRow_nil _ _ _ _⟩, hm2, by omega, by omega, by omega, by omega, by omega, by omega, by simp⟩
    rw [Below.heap_alloc _ _ _ (by omega), hg2.block (w.heap.size + 1) (by simp) (by simp)]
    rw [Below.heap_alloc _ _ _ (by simp)]
    have := heap_alloc_new (w.alloc (.cells #[.slice T ats.length c, .slice T' cds.length c'] 42)) (.cells #[.slice none 0 0] 23)
    simpa using this
  have HB := hid hbb
  have HV := hid hvi
  clear hbb hvi hmap2 hg2 HM hmm hmf e0 e1
  have hBs2 : w.heap.size + 3 ≤ w2.heap.size := by omega
  go_loopw [18] (fun i wr => ∃ (k n : Nat) (acc : List Str), k ≤ ats.length ∧ i = .int .i64 k ∧ n ≤ 1 + k * 6 ∧ acc.length ≤ k * 6 ∧ Hid (VInv wr w2.heap.size (w.heap.size + 1) (w.heap.size + 1 + 1) (w2.heap.size + 1) n acc) ∧ Hid (((ats.drop k).flatMap atomVs ++ cds.map (·.v)).foldl addN acc = x) ∧ Hid (Below (w.heap.size + 1) (w.alloc (.cells #[.slice T ats.length c, .slice T' cds.length c'] 42)) wr)) (fun i _ => ats.length - (intOf i).toNat)
  case atStart => exact ⟨0, 1, [], by omega, rfl, by omega, by simp, HV, HX, HB⟩
  case round =>
    obtain ⟨k, n, acc, hk, rfl, hn, hacc, HV1, HX1, HB1⟩ := hrel
    obtain ⟨wo, rfl⟩ : ∃ wo : World, wo = wr := ⟨_, rfl⟩
    clear HV HX HB
    have hbel : Below w.heap.size w wo := (below_one w _).trans (HB1.out.mono (by omega))
    have hsz := hbel.size
    have hbig : w2.heap.size + 1 ≤ wo.heap.size := HV1.out.d.2.2.2.2.2.2
    by_cases hlt : k < ats.length
    · obtain ⟨bb, o, rfl, hc⟩ := ha (by omega)
      obtain ⟨Q, qc, d0, d1, d2, hq, hql, hqm⟩ := hc k hlt
      replace d0 := cell_keep hbel d0
      replace d1 := cell_keep hbel d1
      replace d2 := cell_keep hbel d2
      have h6 := F3.out ats[k] (List.getElem_mem hlt)
      have hwa := HW.out ats[k] (List.getElem_mem hlt)
      obtain ⟨a, ea⟩ : ∃ a, ats[k] = a := ⟨_, rfl⟩
      have hsp := vars_atom hlt ea (cds.map (·.v))
      rw [ea] at d0 d1 d2 hq hql hqm h6 hwa
      have HX2 := HX1.out
      rw [hsp] at HX2
      replace HX2 := hid HX2
      clear ea hc hsp HX1
      obtain ⟨neg, rel, ts⟩ := a
      have HT := hid hwa.ts
      clear hwa
      simp only at *
      obtain ⟨Y, hY, _, _⟩ := nm rel
      rw [hY] at d1
      have HVN := hid (HV1.out.below (below_one wo (.cells #[.bool neg, .string Y, .slice Q ts.length qc] 111)))
      have HBN := hid (HB1.out.alloc (by omega) (.cells #[.bool neg, .string Y, .slice Q ts.length qc] 111))
      clear HV1 HB1 hY
      go_wp2
      go_loopw [25] (fun i wr => ∃ (j m : Nat) (ac : List Str), j ≤ ts.length ∧ i = .int .i64 j ∧ m ≤ 1 + k * 6 + j ∧ ac.length ≤ k * 6 + j ∧ Hid (VInv wr w2.heap.size (w.heap.size + 1) (w.heap.size + 1 + 1) (w2.heap.size + 1) m ac) ∧ Hid (((ts.drop j).map (·.v) ++ ((ats.drop (k + 1)).flatMap atomVs ++ cds.map (·.v))).foldl addN ac = x) ∧ Hid (Below (w.heap.size + 1) (w.alloc (.cells #[.slice (some ⟨bb, o, none⟩) ats.length c, .slice T' cds.length c'] 42)) wr)) (fun i _ => ts.length - (intOf i).toNat)
      case atStart => exact ⟨0, n, acc, by omega, rfl, by omega, by omega, HVN, HX2, HBN⟩
      case round =>
        obtain ⟨j, m, ac, hj, rfl, hm, hac, HV1, HX1, HB1⟩ := hrel
        clear HVN HX2 HBN
        have hbelq : Below w.heap.size w wr := (below_one w _).trans (HB1.out.mono (by omega))
        have hszq := hbelq.size
        have hbigq : w2.heap.size + 1 ≤ wr.heap.size := HV1.out.d.2.2.2.2.2.2
        by_cases hjt : j < ts.length
        · obtain ⟨bb2, o2, rfl, hc2⟩ := hq (by omega)
          obtain ⟨g0, g1, g2, g3⟩ := hc2 j hjt
          replace g0 := cell_keep hbelq g0
          replace g1 := cell_keep hbelq g1
          replace g2 := cell_keep hbelq g2
          replace g3 := cell_keep hbelq g3
          have hvl := (HT.out ts[j] (List.getElem_mem hjt)).v
          obtain ⟨t, et⟩ : ∃ t, ts[j] = t := ⟨_, rfl⟩
          have HX2 := hid ((vars_term hjt et _ ac).symm.trans HX1.out)
          rw [et] at g0 g1 g2 g3 hvl
          clear et hc2 HX1
          obtain ⟨v, ⟨ck, cn, cs⟩⟩ := t
          simp only at *
          obtain ⟨Z, hZ, hZd, hZl⟩ := nm v
          clear hZl
          rw [hZ] at g0
          have hZs := maxLen_of hZd hvl
          have HVN := hid (HV1.out.below (below_one wr (.cells #[.string Z, .int .i64 ck, .int .i64 cn, .string cs] 146)))
          have HBN := hid (HB1.out.alloc (by omega) (.cells #[.string Z, .int .i64 ck, .int .i64 cn, .string cs] 146))
          have hal := addN_len ac v
          have H1 := fun W h => hid (vars_add Z w2.heap.size (w.heap.size + 1) (w.heap.size + 1 + 1) (w2.heap.size + 1) m ac W h (by omega) (by omega) hZs (B := w.heap.size + 1) (by omega))
          rw [hZd] at H1
          clear hZ hZd hZs hvl HV1 HB1
          go_wp2_with fail
          refine (H1 _ HVN.out).out.mono ?_
          rintro e w3 ⟨rfl, hv3, hb3⟩
          have HV3 := hid hv3
          have HB3 := hid (HBN.out.trans hb3)
          clear hv3 hb3 H1 HVN HBN
          go_wp2
          go_roundw
          case rel => exact ⟨j + 1, m + 1, addN ac v, by omega, by go_num, by omega, by omega, HV3, HX2, HB3⟩
          case measure => simp [intOf]; omega
        · have HX2 := hid ((vars_term_end hjt _ ac).symm.trans HX1.out)
          clear HX1
          go_wp2
          go_roundw
          case rel => exact ⟨k + 1, m, ac, by omega, by go_num, by omega, by omega, HV1, HX2, HB1⟩
          case measure => simp [intOf]; omega
    · have HX2 := hid ((vars_atom_end hlt cds acc).symm.trans HX1.out)
      have hbx : wo.cell? ⟨w.heap.size, 1, none⟩ = some (.slice T' cds.length c') := (HB1.out.cell (p := ⟨w.heap.size, 1, none⟩) (by simp)).trans (by simp)
      have hlt5 : w.heap.size < wo.heap.size := by omega
      clear HX1
      go_wp2
      go_loopw [38] (fun i wr => ∃ (j m : Nat) (ac : List Str), j ≤ cds.length ∧ i = .int .i64 j ∧ m ≤ 100 + j ∧ ac.length ≤ 100 + j ∧ Hid (VInv wr w2.heap.size (w.heap.size + 1) (w.heap.size + 1 + 1) (w2.heap.size + 1) m ac) ∧ Hid (((cds.drop j).map (·.v)).foldl addN ac = x) ∧ Hid (Below (w.heap.size + 1) (w.alloc (.cells #[.slice T ats.length c, .slice T' cds.length c'] 42)) wr)) (fun i _ => cds.length - (intOf i).toNat)
      case atStart => exact ⟨0, n, acc, by omega, rfl, by omega, by omega, HV1, HX2, HB1⟩
      case round =>
        obtain ⟨j, m, ac, hj, rfl, hm, hac, HV3, HX3, HB3⟩ := hrel
        clear HV1 HX2 HB1 hbx
        have hbelq : Below w.heap.size w wr := (below_one w _).trans (HB3.out.mono (by omega))
        have hszq := hbelq.size
        have hbigq : w2.heap.size + 1 ≤ wr.heap.size := HV3.out.d.2.2.2.2.2.2
        by_cases hjt : j < cds.length
        · obtain ⟨bb2, o2, rfl, hc2⟩ := hcn (by omega)
          obtain ⟨g0, g1, g2, g3, g4⟩ := hc2 j hjt
          replace g0 := cell_keep hbelq g0
          replace g1 := cell_keep hbelq g1
          replace g2 := cell_keep hbelq g2
          replace g3 := cell_keep hbelq g3
          replace g4 := cell_keep hbelq g4
          have hvl := (HC.out cds[j] (List.getElem_mem hjt)).v
          obtain ⟨t, et⟩ : ∃ t, cds[j] = t := ⟨_, rfl⟩
          have HX2 := hid ((vars_cond hjt et ac).symm.trans HX3.out)
          rw [et] at g0 g1 g2 g3 g4 hvl
          clear et hc2 HX3
          obtain ⟨v, op, ⟨ck, cn, cs⟩⟩ := t
          simp only at *
          obtain ⟨Z, hZ, hZd, hZl⟩ := nm v
          clear hZl
          rw [hZ] at g0
          have hZs := maxLen_of hZd hvl
          have HVN := hid (HV3.out.below (below_one wr (.cells #[.string Z, .int .i64 op, .int .i64 ck, .int .i64 cn, .string cs] 115)))
          have HBN := hid (HB3.out.alloc (by omega) (.cells #[.string Z, .int .i64 op, .int .i64 ck, .int .i64 cn, .string cs] 115))
          have hal := addN_len ac v
          have H1 := fun W h => hid (vars_add Z w2.heap.size (w.heap.size + 1) (w.heap.size + 1 + 1) (w2.heap.size + 1) m ac W h (by omega) (by omega) hZs (B := w.heap.size + 1) (by omega))
          rw [hZd] at H1
          clear hZ hZd hZs hvl HV3 HB3
          go_wp2_with fail
          refine (H1 _ HVN.out).out.mono ?_
          rintro e w3 ⟨rfl, hv3, hb3⟩
          have HV4 := hid hv3
          have HB4 := hid (HBN.out.trans hb3)
          clear hv3 hb3 H1 HVN HBN
          go_wp2
          go_roundw
          case rel => exact ⟨j + 1, m + 1, addN ac v, by omega, by go_num, by omega, by omega, HV4, HX2, HB4⟩
          case measure => simp [intOf]; omega
        · have hx : ac = x := (vars_cond_end hjt ac).symm.trans HX3.out
          subst hx
          obtain ⟨_, ⟨u, hu, hown⟩, _⟩ := HV3.out
          have cu := cell_of_one hu
          have HO := hid hown
          clear HX3 hu hown
          go_wp2
          go_ret
          exact ⟨u, w2.heap.size + 1, rfl, by omega, HO.out, hbelq⟩
end
end Go.Proofs.YtnbacdmlaedppaaGreatDoor
