/-
  WALKS: check.infer.
-/
import Derived.Test.YtgeapgbebbapmaaChk3
namespace Go.Proofs.Ytgeapgbebbapmaa
open Go.RowKit

theorem EI_ok : EI.Ok Try.prog 3 := EI.ok Try.underlying3 Try.zeroValue3
/-- The kinds of names in memory. -/
def KMapAt (w : World) (b n : Nat) (E : Env) : Prop := MapAt Try.prog 3 9 EI w b n (getE E)
theorem KMapAt.made (w : World) : KMapAt (w.alloc (.map #[] 0)) w.heap.size 0 [] := MapAt.made (P := Try.prog) (e := 3) (k := 9) (E := EI) w
theorem EI_wf {n : Int} (h : I64 n) : plainElem (H := Unit) Try.prog 3 (EI.R n) = some (.lit (EI.L n), []) := plainElem_int Try.underlying3 (by
  unfold I64 at h
  simp [Lit.wf, IntKind.min, IntKind.max, IntKind.signed, IntKind.bits]
  omega)
theorem updF_env {E : Env} {v : Str} {k : Int} (h : getE E v = none) : updF (getE E) v k = getE (E ++ [(v, k)]) := by
  funext x
  rw [getE_put h]; rfl
/-- What infer returns. -/
def RetMap (w : World) (x : Int × Env) (e : Ending) (w' : World) : Prop :=
  ((x.1 = 0 ∧ ∃ b n, e = .returned (.tuple #[.map (some b), .int .i64 0]) ∧ w.heap.size ≤ b ∧ KMapAt w' b n x.2) ∨ (x.1 ≠ 0 ∧ e = .returned (.tuple #[.map none, .int .i64 x.1]))) ∧ Below w.heap.size w w'
structure Sch.wf (s : Sch) : Prop where
  name : s.name.length ≤ 9223372036854775807
  kinds : ∀ k ∈ s.kinds, I64 k
theorem findS_mem {S : List Sch} {n : Str} {s : Sch} (h : findS S n = some s) : s ∈ S := List.mem_of_find?_eq_some h

theorem ne_map {P : Program} {e k : TypeId} {α : Type} {E : Elem α} {w : World} {b n : Nat} {F : Str → Option α} (hm : MapAt P e k E w b n F) {b' o : Nat} {v : Value} (h : w.cell? ⟨b', o, none⟩ = some v) : b' ≠ b := by
  rintro rfl
  obtain ⟨D, ⟨es, clock, hb, _⟩, _⟩ := hm
  simp [World.cell?, hb] at h
theorem cell_put {P : Program} {e k : TypeId} {α : Type} {E : Elem α} {w w' : World} {b n : Nat} {F : Str → Option α} (hm : MapAt P e k E w b n F) (hg : w.grownBy w' (some b)) {b' o : Nat} {v : Value} (h : w.cell? ⟨b', o, none⟩ = some v) : w'.cell? ⟨b', o, none⟩ = some v :=
  hg.cell h (fun e => ne_map hm h (by injection e))
theorem KdsAt.put {P : Program} {e k : TypeId} {α : Type} {E : Elem α} {w w' : World} {b n : Nat} {F : Str → Option α} {A : Option Addr} {l : List Int} (h : KdsAt w A l) (hm : MapAt P e k E w b n F) (hg : w.grownBy w' (some b)) : KdsAt w' A l := fun hp => by
  obtain ⟨bb, o, e, hc⟩ := h hp
  exact ⟨bb, o, e, fun i hi => cell_put hm hg (hc i hi)⟩
def thenT (S : List Sch) (l : List Atm) : Option Env → Int × Env
  | some E' => inferT S E' l
  | none => (5, [])

set_option maxRecDepth 100000 in
set_option maxHeartbeats 16000000 in
theorem chk_infer (r : Rul) (S : List Sch) (T T' B : Option Addr) (c c' cs : Nat) (w : World) (ha : AtmsAt w T r.atoms) (hs : SchsAt w B S) (hf : r.few) (hwf : r.wf) (hws : ∀ s ∈ S, s.wf) (hms : S.length ≤ 9223372036854775807) {x : Int × Env} (hx : inferT S [] r.atoms = x) :
    Calls Try.prog 22 #[.agg #[.slice T r.atoms.length c, .slice T' r.conds.length c'], .slice B S.length cs] w (RetMap w x) := by
  have HX : Hid (inferT S [] (r.atoms.drop 0) = x) := hid hx
  clear hx
  obtain ⟨ats, cds⟩ := r
  obtain ⟨f1, _, f3⟩ := hf
  have hw0 := hwf.atoms
  simp only at f1 f3 hw0 ha HX ⊢
  have F3 := hid f3
  have HW := hid hw0
  have HWS := hid hws
  have HS := hid hs
  clear f3 hw0 hwf hws hs
  have hmm := @run_makeMap Try.prog
  have HB0 : Hid (Below w.heap.size w ((w.alloc (.cells #[.slice T ats.length c, .slice T' cds.length c'] 46)).alloc (.map #[] 0))) := hid (below_two w _ _)
  have HM : Hid (KMapAt ((w.alloc (.cells #[.slice T ats.length c, .slice T' cds.length c'] 46)).alloc (.map #[] 0)) (w.heap.size + 1) 0 []) := hid (by
    have := KMapAt.made (w.alloc (.cells #[.slice T ats.length c, .slice T' cds.length c'] 46))
    simpa using this)
  go_enter Try.func22, Try.ntmps22
  go_wp2
  go_loopw [19] (fun i wr => ∃ (k n : Nat) (E : Env), k ≤ ats.length ∧ i = .int .i64 k ∧ n ≤ k * 6 ∧ Hid (KMapAt wr (w.heap.size + 1) n E) ∧ Hid (inferT S E (ats.drop k) = x) ∧ Hid (Below w.heap.size w wr)) (fun i _ => ats.length - (intOf i).toNat)
  case atStart => exact ⟨0, 0, [], by omega, rfl, by omega, HM, HX, HB0⟩
  case round =>
    obtain ⟨k, n, E, hk, rfl, hn, HMk, HXk, HBk⟩ := hrel
    have hbel := HBk.out
    have hsz := hbel.size
    clear HM HB0 HX
    by_cases hlt : k < ats.length
    · obtain ⟨bb, o, rfl, hc⟩ := ha (by omega)
      obtain ⟨Q, qc, d0, d1, d2, hq, hql, hqm⟩ := hc k hlt
      replace d0 := cell_keep hbel d0
      replace d1 := cell_keep hbel d1
      replace d2 := cell_keep hbel d2
      have h6 := F3.out ats[k] (List.getElem_mem hlt)
      have hwa := HW.out ats[k] (List.getElem_mem hlt)
      have hon := fun E' h => inferT_on (S := S) (E := E) (E' := E') hlt h
      have hat := fun e E' h h2 => inferT_at (S := S) (E := E) (E' := E') (e := e) hlt h h2
      obtain ⟨a, ea⟩ : ∃ a, ats[k] = a := ⟨_, rfl⟩
      rw [ea] at d0 d1 d2 hq hql hqm h6 hwa hon hat
      have hno := fun h => atomT_none (S := S) (E := E) (a := a) h
      have hln := fun s h h2 => atomT_len (S := S) (E := E) (a := a) (s := s) h h2
      have hok := fun s E' h h2 h3 => atomT_ok (S := S) (E := E) (E' := E') (a := a) (s := s) h h2 h3
      have hbd := fun s h h2 h3 => atomT_bad (S := S) (E := E) (a := a) (s := s) h h2 h3
      have Hon := hid hon
      have Hat := hid hat
      have HT := hid hwa.ts
      clear ea hc hon hat hwa
      obtain ⟨neg, rel, ts⟩ := a
      have Hno := hid hno
      have Hln := hid hln
      have Hok := hid hok
      have Hbd := hid hbd
      clear hno hln hok hbd
      simp only at *
      obtain ⟨Y, hY, hYd, _⟩ := nm rel
      rw [hY] at d1
      have hblk := below_one wr (.cells #[.bool neg, .string Y, .slice Q ts.length qc] 51)
      have HMn := hid (HMk.out.alloc (.cells #[.bool neg, .string Y, .slice Q ts.length qc] 51))
      have HBn := hid (hbel.alloc hsz (.cells #[.bool neg, .string Y, .slice Q ts.length qc] 51))
      obtain ⟨fs, hfs⟩ : ∃ fs, findS S rel = fs := ⟨_, rfl⟩
      have C1 := fun W h => hid (chk_find B cs S Y W h hms (x := fs) (by rw [hYd]; exact hfs))
      have HFS := hid hfs
      obtain ⟨wo, rfl⟩ : ∃ wo : World, wo = wr := ⟨_, rfl⟩
      have HSn := hid (HS.out.below HBn.out)
      clear HMk HBk hbel hY hYd hfs
      go_wp2_with fail
      refine (C1 _ HSn.out).out.mono ?_
      rintro e w2 ⟨hfound, b2⟩
      have a2 := cell_keep b2 (v := .slice Q ts.length qc) (b := wo.heap.size) (o := 2) (by simp)
      have hs2 : wo.heap.size < w2.heap.size := by have := b2.size; simp at this; omega
      have HM2 := hid (MapAt.below HMn.out b2)
      have HB2 := hid (HBn.out.trans (b2.mono (by simp; omega)))
      clear C1 HSn HMn HBn b2 hblk
      cases fs with
      | none =>
        have he : e = .returned (.tuple #[.agg #[.string ⟨#[]⟩, .slice none 0 0], .bool false]) := hfound
        subst he
        have hx : x = (7, []) := by rw [← HXk.out]; exact Hat.out 7 [] (Hno.out HFS.out) (by decide)
        subst hx
        have hb3 := HB2.out.alloc (by omega) (.cells #[.string ⟨#[]⟩, .slice none 0 0] 61)
        clear Hon Hat Hno Hln Hok Hbd HXk hfound
        go_wp2
        go_ret2
        exact ⟨.inr ⟨by decide, rfl⟩, hb3⟩
      | some s =>
        obtain ⟨K, ck, he, hkd, hkm⟩ := hfound
        subst he
        have hwk := (HWS.out s (findS_mem HFS.out)).kinds
        obtain ⟨nme, kds⟩ := s
        simp only at *
        obtain ⟨Z0, hZ0, _, _⟩ := nm nme
        rw [hZ0]
        have HWK := hid hwk
        have hkd0 := hkd
        have HM3 := hid (HM2.out.alloc (.cells #[.string Z0, .slice K kds.length ck] 61))
        have HB3 := hid (HB2.out.alloc (by omega) (.cells #[.string Z0, .slice K kds.length ck] 61))
        have a3 := cell_keep (below_one w2 (.cells #[.string Z0, .slice K kds.length ck] 61)) a2
        have HK3 := hid (hkd.below (below_one w2 (.cells #[.string Z0, .slice K kds.length ck] 61)))
        clear hwk hkd hkd0 hZ0
        have hw2 : w.heap.size + 1 < w2.heap.size := HM2.out.lt
        by_cases hlen : ts.length = kds.length
        · have bl : ((ts.length : Int) != (kds.length : Int)) = false := by rw [bne_eq_false_iff_eq]; omega
          obtain ⟨y, hy⟩ : ∃ y, termsT E ts kds = y := ⟨_, rfl⟩
          have HT0 : Hid (termsT E (ts.drop 0) (kds.drop 0) = y) := hid hy
          have Hres : Hid (thenT S (ats.drop (k + 1)) y = x) := hid (by
            cases y with
            | none => rw [← HXk.out]; exact (Hat.out 5 [] (Hbd.out _ HFS.out hlen hy) (by decide)).symm
            | some E' => exact (Hon.out E' (Hok.out _ E' HFS.out hlen hy)).symm.trans HXk.out)
          have HLn := hid hlen
          have hbel2 := HB2.out
          clear Hon Hat Hno Hln Hok Hbd HXk hy hlen HM2 a2
          go_wp2
          go_loopw [42] (fun i wr => ∃ (j m : Nat) (F : Env), j ≤ ts.length ∧ i = .int .i64 j ∧ m ≤ k * 6 + j ∧ Hid (KMapAt wr (w.heap.size + 1) m F) ∧ Hid (termsT F (ts.drop j) (kds.drop j) = y) ∧ Hid (Below w.heap.size w wr) ∧ wr.cell? ⟨w2.heap.size, 1, none⟩ = some (.slice K kds.length ck) ∧ w2.heap.size < wr.heap.size ∧ Hid (KdsAt wr K kds)) (fun i _ => ts.length - (intOf i).toNat)
          case atStart => exact ⟨0, n, E, by omega, rfl, by omega, HM3, HT0, HB3, by simp, by simp, HK3⟩
          case round =>
            obtain ⟨j, m, F, hj, rfl, hm, HMj, HTj, HBj, s1, hlt2, HKj⟩ := hrel
            have hbj := HBj.out
            have hszj := hbj.size
            clear HM3 HT0 HB3 HK3
            by_cases hjt : j < ts.length
            · have hjk : j < kds.length := by have := HLn.out; omega
              obtain ⟨bb2, o2, rfl, hc2⟩ := hq (by omega)
              obtain ⟨g0, g1, g2, g3⟩ := hc2 j hjt
              replace g0 := cell_keep hbj g0
              replace g1 := cell_keep hbj g1
              replace g2 := cell_keep hbj g2
              replace g3 := cell_keep hbj g3
              obtain ⟨bk, ok, rfl, hck⟩ := HKj.out (by omega)
              have p0 := hck j hjk
              have hwv := (HT.out ts[j] (List.getElem_mem hjt)).v
              have hwq := HWK.out kds[j] (List.getElem_mem hjk)
              have hon := fun F' h => termsT_on (E := F) (E' := F') hjt hjk h
              have hbd := fun h => termsT_bad (E := F) hjt hjk h
              have hway := termT_ways F ts[j] kds[j]
              generalize ts[j] = t at *
              generalize kds[j] = kd at *
              obtain ⟨v, ⟨ckk, cn, cst⟩⟩ := t
              simp only at *
              obtain ⟨Z, hZ, hZd, hZl⟩ := nm v
              have hno := noS hZl
              clear hZl
              rw [hZ] at g0
              have hZs := maxLen_of hZd hwv
              have HZ := hid hZd
              have hblk := below_one wr (.cells #[.string Z, .int .i64 ckk, .int .i64 cn, .string cst] 81)
              have HMn := hid (HMj.out.alloc (.cells #[.string Z, .int .i64 ckk, .int .i64 cn, .string cst] 81))
              have hBn := hbj.alloc hszj (.cells #[.string Z, .int .i64 ckk, .int .i64 cn, .string cst] 81)
              have s1n := cell_keep hblk s1
              have HKn := hid (HKj.out.below hblk)
              have hltn : w2.heap.size < (wr.alloc (.cells #[.string Z, .int .i64 ckk, .int .i64 cn, .string cst] 81)).heap.size := by simp; omega
              have HBn := hid hBn
              have p0n := cell_keep hblk p0
              have Hon := hid hon
              have Hbd := hid hbd
              have HTo := HTj.out
              clear hc2 hck hon hbd HMj HBj HTj HKj hZ hZd
              rcases hway with ⟨h1, h2, h3⟩ | ⟨h1, h2, h3⟩ | ⟨h1, h2, h3⟩ | ⟨q, h1, h2, h4, h3⟩ | ⟨h1, h2, h3⟩
              · have hz : Z.toList.isEmpty = true := by rw [hno]; simpa using h1
                have bq : (ckk != kd) = false := by simpa using h2
                have HN := hid ((Hon.out F h3).symm.trans HTo)
                clear hno h1 h2 h3 Hon Hbd HTo hblk
                go_wp2
                go_roundw
                case rel => exact ⟨j + 1, m, F, by omega, by go_num, by omega, HMn, HN, HBn, s1n, hltn, HKn⟩
                case measure => simp [intOf]; omega
              · have hz : Z.toList.isEmpty = true := by rw [hno]; simpa using h1
                have bq : (ckk != kd) = true := by simpa using h2
                have hy : none = y := (Hbd.out h3).symm.trans HTo
                subst hy
                have hx : x = (5, []) := Hres.out.symm
                subst hx
                clear hno h1 h2 h3 Hon Hbd HTo hblk Hres
                go_wp2
                go_ret2
                exact ⟨.inr ⟨by decide, rfl⟩, hBn⟩
              · have hz : Z.toList.isEmpty = false := by rw [hno]; simpa using h1
                have hv0 : EI.R ((getE F Z.data.toList).getD EI.zero) = .int .i64 kd := by rw [HZ.out, h2]; rfl
                have hv1 : (getE F Z.data.toList).isSome = true := by rw [HZ.out, h2]; rfl
                have HV0 := hid hv0
                have HV1 := hid hv1
                have HN := hid ((Hon.out F h3).symm.trans HTo)
                clear hno h1 h2 h3 Hon Hbd HTo hblk hv0 hv1
                go_wp2_with (at_lookup; refine wpList_lookOk rfl _ _ rfl HMn.out EI_ok Try.underlying9 Try.underlying68 rfl Z rfl hZs (.int .i64 kd) HV0.out true HV1.out ?_)
                go_roundw
                case rel => exact ⟨j + 1, m, F, by omega, by go_num, by omega, HMn, HN, HBn, s1n, hltn, HKn⟩
                case measure => simp [intOf]; omega
              · have hz : Z.toList.isEmpty = false := by rw [hno]; simpa using h1
                have hv0 : EI.R ((getE F Z.data.toList).getD EI.zero) = .int .i64 q := by rw [HZ.out, h2]; rfl
                have hv1 : (getE F Z.data.toList).isSome = true := by rw [HZ.out, h2]; rfl
                have bq : (q != kd) = true := by simpa using h4
                have HV0 := hid hv0
                have HV1 := hid hv1
                have hy : none = y := (Hbd.out h3).symm.trans HTo
                subst hy
                have hx : x = (5, []) := Hres.out.symm
                subst hx
                clear hno h1 h2 h3 h4 Hon Hbd HTo hblk hv0 hv1 Hres
                go_wp2_with (at_lookup; refine wpList_lookOk rfl _ _ rfl HMn.out EI_ok Try.underlying9 Try.underlying68 rfl Z rfl hZs (.int .i64 q) HV0.out true HV1.out ?_)
                go_ret2
                exact ⟨.inr ⟨by decide, rfl⟩, hBn⟩
              · have hz : Z.toList.isEmpty = false := by rw [hno]; simpa using h1
                have hv0 : EI.R ((getE F Z.data.toList).getD EI.zero) = .int .i64 0 := by rw [HZ.out, h2]; rfl
                have hv1 : (getE F Z.data.toList).isSome = false := by rw [HZ.out, h2]; rfl
                have HV0 := hid hv0
                have HV1 := hid hv1
                have HN := hid ((Hon.out _ h3).symm.trans HTo)
                have HU := hid (updF_env (k := kd) h2)
                clear hno h1 h2 h3 Hon Hbd HTo hblk hv0 hv1
                go_wp2_with (first
                  | (at_lookup; refine wpList_lookOk rfl _ _ rfl HMn.out EI_ok Try.underlying9 Try.underlying68 rfl Z rfl hZs (.int .i64 0) HV0.out false HV1.out ?_)
                  | (at_mapUpdate; refine wpList_put rfl _ _ _ rfl HMn.out Try.underlying9 Try.underlying68 (by unfold maxLen; omega) rfl Z rfl hZs kd rfl (EI_wf hwq) ?_; intro w5 hmap5 hg5; have s5 := cell_put HMn.out hg5 s1n; have p5 := cell_put HMn.out hg5 p0n))
                have HK5 := hid (HKn.out.put HMn.out hg5)
                have HB5 := hid (hBn.grown hg5 hBn.size (fun j hj => by injection hj; omega))
                have hl5 : w2.heap.size < w5.heap.size := by have := hg5.size; omega
                rw [HZ.out, HU.out] at hmap5
                go_roundw
                case rel => exact ⟨j + 1, m + 1, F ++ [(v, kd)], by omega, by go_num, by omega, hid hmap5, HN, HB5, s5, hl5, HK5⟩
                case measure => simp [intOf]; omega
            · have hy : some F = y := (termsT_end hjt).symm.trans HTj.out
              subst hy
              have HX2 : Hid (inferT S F (ats.drop (k + 1)) = x) := hid Hres.out
              clear HTj Hres
              go_wp2
              go_roundw
              case rel => exact ⟨k + 1, m, F, by omega, by go_num, by omega, HMj, HX2, HBj⟩
              case measure => simp [intOf]; omega
        · have bl : ((ts.length : Int) != (kds.length : Int)) = true := by rw [bne_iff_ne]; omega
          have hx : x = (6, []) := by rw [← HXk.out]; exact Hat.out 6 [] (Hln.out _ HFS.out hlen) (by decide)
          subst hx
          clear Hon Hat Hno Hln Hok Hbd HXk hlen
          go_wp2
          go_ret2
          exact ⟨.inr ⟨by decide, rfl⟩, HB3.out⟩
    · have hx : x = (0, E) := by rw [← HXk.out, inferT_end hlt]
      subst hx
      clear HXk
      go_wp2
      go_ret2
      exact ⟨.inl ⟨rfl, _, n, rfl, by omega, HMk.out⟩, hbel⟩
end Go.Proofs.Ytgeapgbebbapmaa
