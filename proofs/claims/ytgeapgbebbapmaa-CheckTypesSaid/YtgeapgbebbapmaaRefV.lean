/-
  WALK: the document's Vars (chapter 21): the kinds of a rule's variables, or the first error; no condition but on the lengths, and that no kind of a schema is nought.
-/
import Derived.Test.YtgeapgbebbapmaaRefT
import Derived.Test.YtgeapgbebbapmaaAwk
import Derived.Deep.RegionLaw
import Derived.Deep.DeepCutAuto
namespace Go.Proofs.Ytgeapgbebbapmaa
open Go.RowKit

theorem find_idx {S : List Sch} {n : Str} {k : Nat} (h : S.findIdx? (fun s => s.name == n) = some k) : ∃ hk : k < S.length, findS S n = some S[k] := by
  rw [List.findIdx?_eq_some_iff_getElem] at h
  obtain ⟨hk, h1, h2⟩ := h
  refine ⟨hk, ?_⟩
  unfold findS
  rw [List.find?_eq_some_iff_getElem]
  exact ⟨h1, k, hk, rfl, fun j hj => by simpa using h2 j hj⟩
theorem find_non {S : List Sch} {n : Str} (h : S.findIdx? (fun s => s.name == n) = none) : findS S n = none := by
  rw [List.findIdx?_eq_none_iff] at h
  unfold findS
  rw [List.find?_eq_none]
  intro s hs
  simpa using h s hs
/-- A row of the call's own is no block of another kind. -/
theorem own_ne_box {w : World} {B e z n b t : Nat} {v : Value} {xs : List Value} {cs : Array Value} {f : Nat × Nat} (h : w.ownsRow B e z v n xs) (hb : w.heap[b]? = some (.cells cs t f)) (ht : t ≠ e) : some b ≠ v.ownBlock := by
  intro he
  rcases h.2 with ⟨rfl, _⟩ | ⟨g, cap, cur, rfl, _, hh, _⟩
  · cases he
  · have he : b = g := by simpa [Value.ownBlock] using he
    subst he
    rw [hh] at hb
    injection hb with hb
    injection hb with _ hb _
    exact ht hb.symm
theorem nmX {X : ByteArray} {v : Str} (h : X.toList = v) : (⟨v.toArray⟩ : ByteArray) = X := by
  subst h
  obtain ⟨⟨l⟩⟩ := X
  rw [Lib.toList_data]
/-- What Vars returns. -/
def RetV (w : World) (x : Int × Env) (e : Ending) (w' : World) : Prop := ∃ u, e = .returned (.tuple #[u, .int .i64 x.1]) ∧ w'.ownsRow w.heap.size 66 2 u x.2.length (vrC x.2) ∧ x.2.length ≤ 100 ∧ Below w.heap.size w w'
theorem kindE_none {E : Env} {v : Str} (h : getE E v = none) : kindE E v = 0 := by unfold kindE; rw [h]; rfl
theorem kindE_some {E : Env} {v : Str} {k : Int} (h : getE E v = some k) : kindE E v = k := by unfold kindE; rw [h]; rfl
theorem getE_mem {E : Env} {v : Str} {k : Int} (h : getE E v = some k) : ∃ p ∈ E, p.2 = k := by
  unfold getE at h
  cases hf : E.find? fun p => p.1 == v with
  | none => rw [hf] at h; cases h
  | some p =>
    rw [hf] at h
    injection h with h
    exact ⟨p, List.mem_of_find?_eq_some hf, h⟩

set_option maxRecDepth 100000 in
set_option maxHeartbeats 32000000 in
theorem ref_vars (r : Rul) (S : List Sch) (A B BS : Option Addr) (ca cb cs : Nat) (w : World) (h : RAsAt w A r.atoms) (hs : SchsAt w BS S) (hms : S.length ≤ 9223372036854775807) (hk : ∀ s ∈ S, ∀ k ∈ s.kinds, k ≠ 0) (m1 : r.atoms.length ≤ 8) (m3 : ∀ a ∈ r.atoms, a.ts.length ≤ 6) {x : Int × Env} (hx : inferT S [] r.atoms = x) :
    Calls Try.prog 25 #[.agg #[.slice A r.atoms.length ca, .slice B r.conds.length cb], .slice BS S.length cs] w (RetV w x) := by
  obtain ⟨i0, hi, hy0, hy1, hy2⟩ := info_parts infoVr2
  have H := hid h
  have HS := hid hs
  have HK := hid hk
  have M3 := hid m3
  have C1 := fun (p : World) (hb : Below w.heap.size w p) (X : ByteArray) (n : Str) (hX : X.toList = n) x hx => hid (ref_find S BS cs X n hX p (hs.below hb) hms (x := x) hx)
  obtain ⟨ats, cds⟩ := r
  simp only at hx m1 H M3 ⊢
  have HX0 : Hid (inferT S [] (ats.drop 0) = x) := hid hx
  have HB0 : Hid (Below (w.heap.size + 1) (w.alloc (.cells #[.slice A ats.length ca, .slice B cds.length cb] 56)) (w.alloc (.cells #[.slice A ats.length ca, .slice B cds.length cb] 56))) := hid (Below.refl _ _)
  clear h hs hk m3 hx
  go_enter Try.func25, Try.ntmps25
  go_wp2
  go_loopw [7, 6] (fun i u wr => ∃ (k : Nat) (E : Env), k ≤ ats.length ∧ i = .int .i64 k ∧ Hid (inferT S E (ats.drop k) = x) ∧ E.length ≤ k * 6 ∧ Hid (∀ p ∈ E, p.2 ≠ 0) ∧ Hid (wr.ownsRow (w.heap.size + 1) 66 2 u E.length (vrC E)) ∧ Hid (Below (w.heap.size + 1) (w.alloc (.cells #[.slice A ats.length ca, .slice B cds.length cb] 56)) wr)) (fun i _ _ => ats.length - (intOf i).toNat)
  case atStart => exact ⟨0, [], by omega, rfl, HX0, by simp, hid (fun p hp => absurd hp (by simp)), hid (World.ownsRow_nil _ _ _ _), HB0⟩
  case round =>
    rename World => wo
    obtain ⟨i, E, hi1, rfl, HI, hE6, HN0, HU, HB1⟩ := hrel
    clear HX0 HB0
    obtain ⟨c0, c1, clt, hbel⟩ := rul_cells HB1.out
    have hsz := hbel.size
    have hsz1 : w.heap.size + 1 ≤ wo.heap.size := by have := HB1.out.size; simpa using this
    by_cases hlt : i < ats.length
    · obtain ⟨bA, oA, rfl, hcc⟩ := rasO H.out (by omega)
      obtain ⟨T, ct, d0, d1, d2, hts⟩ := hcc i hlt
      replace d0 := cell_keep hbel d0
      replace d1 := cell_keep hbel d1
      replace d2 := cell_keep hbel d2
      have hm6 := M3.out ats[i] (List.getElem_mem hlt)
      have hion := fun E' h0 => inferT_on (S := S) (E := E) (E' := E') hlt h0
      have hiat := fun e E' h0 he => inferT_at (S := S) (E := E) (E' := E') (e := e) hlt h0 he
      obtain ⟨⟨ng, rel, ts⟩, ea⟩ : ∃ a, ats[i] = a := ⟨_, rfl⟩
      rw [ea] at d0 d1 d2 hts hm6 hion hiat
      simp only at d0 d1 d2 hts hm6
      obtain ⟨Z, hZ, _, hZl⟩ := nm rel
      rw [hZ] at d1
      obtain ⟨nt, hnt⟩ : ∃ n, ts.length = n := ⟨_, rfl⟩
      rw [hnt] at d2 hm6
      have HNT := hid hnt
      have hb8 := below_one wo (.cells #[.bool ng, .string Z, .slice T nt ct] 98)
      have HTS0 := hid hts
      have HB8 : Hid ((wo.alloc (.cells #[.bool ng, .string Z, .slice T nt ct] 98)).heap[wo.heap.size]? = some (.cells #[.bool ng, .string Z, .slice T nt ct] 98)) := hid (heap_alloc_new wo _)
      have HU8 := hid (HU.out.alloc (.cells #[.bool ng, .string Z, .slice T nt ct] 98))
      have HB9 := hid (HB1.out.alloc hsz1 (.cells #[.bool ng, .string Z, .slice T nt ct] 98))
      obtain ⟨fx, hfx⟩ : ∃ x, S.findIdx? (fun s => s.name == rel) = x := ⟨_, rfl⟩
      have C2 := C1 (wo.alloc (.cells #[.bool ng, .string Z, .slice T nt ct] 98)) (hbel.trans (hb8.mono hsz)) Z rel hZl fx hfx
      have HFX := hid hfx
      have HON := hid hion
      have HAT := hid hiat
      clear hcc ea hZ hZl hnt hts hb8 hfx hion hiat HU
      cases hfe : fx with
      | none =>
        subst hfe
        have C4 : Hid (Calls Try.prog 39 #[.slice BS S.length cs, .string Z] (wo.alloc (.cells #[.bool ng, .string Z, .slice T nt ct] 98)) fun e w' => e = .returned (.int .i64 (-1)) ∧ Below (wo.alloc (.cells #[.bool ng, .string Z, .slice T nt ct] 98)).heap.size (wo.alloc (.cells #[.bool ng, .string Z, .slice T nt ct] 98)) w') := C2
        go_wp2_with fail
        refine C4.out.mono ?_
        rintro e w5 ⟨rfl, b5⟩
        have HB10 := hid (HB9.out.trans (b5.mono (by have := HB9.out.size; simpa using this)))
        have HU10 := hid (own_belowS HU8.out b5)
        have HBX := hid (res_keep' HB8.out b5 (by simp))
        clear C4 b5 HB9 HU8 HB8 c0 c1 clt hbel hsz d0 d1 d2
        obtain ⟨c0, c1, clt, hbel⟩ := rul_cells HB10.out
        have hxx := HI.out.symm.trans (HAT.out 7 [] (atomT_none (find_non HFX.out)) (by decide))
        subst hxx
        clear HI HON HAT HFX
        go_wp2
        go_ret2
        exact ⟨_, rfl, World.ownsRow_nil _ _ _ _, by simp, hbel⟩
      | some k =>
        subst hfe
        have C4 : Hid (Calls Try.prog 39 #[.slice BS S.length cs, .string Z] (wo.alloc (.cells #[.bool ng, .string Z, .slice T nt ct] 98)) fun e w' => e = .returned (.int .i64 (k : Int)) ∧ Below (wo.alloc (.cells #[.bool ng, .string Z, .slice T nt ct] 98)).heap.size (wo.alloc (.cells #[.bool ng, .string Z, .slice T nt ct] 98)) w') := C2
        go_wp2_with fail
        refine C4.out.mono ?_
        rintro e w5 ⟨rfl, b5⟩
        have HB10 := hid (HB9.out.trans (b5.mono (by have := HB9.out.size; simpa using this)))
        have HU10 := hid (own_belowS HU8.out b5)
        have HBX := hid (res_keep' HB8.out b5 (by simp))
        clear C4 b5 HB9 HU8 HB8 c0 c1 clt hbel hsz d0 d1 d2
        obtain ⟨c0, c1, clt, hbel⟩ := rul_cells HB10.out
        obtain ⟨hkS, hfs⟩ := find_idx HFX.out
        obtain ⟨bS, oS, rfl, hcs⟩ := HS.out (by omega)
        obtain ⟨TK, ck, s0, s1, hkd, hkc, hkm⟩ := hcs k hkS
        have hknz := HK.out S[k] (List.getElem_mem hkS)
        replace s0 := cell_keep hbel s0
        replace s1 := cell_keep hbel s1
        obtain ⟨⟨sn, ks⟩, es⟩ : ∃ s, S[k] = s := ⟨_, rfl⟩
        rw [es] at s1 hkd hkc hkm hfs hknz
        simp only at s1 hkd hkc hkm hknz
        have HFS := hid hfs
        have HKD := hid hkd
        have HKNZ := hid hknz
        have t8 := cell_of_heap (o := 2) (v := .slice T nt ct) HBX.out rfl
        have tl8 := lt_of_block HBX.out
        have hsl := cell_lt s1
        clear hcs es hfs hkd hknz s0 HFX
        by_cases hlen : ks.length = nt
        · have bq : ((ks.length : Int) != (nt : Int)) = false := by rw [bne_eq_false_iff_eq]; omega
          have HLEN := hid hlen
          obtain ⟨fin, hfin⟩ : ∃ f, termsT E ts ks = f := ⟨_, rfl⟩
          have HF0 : Hid (termsT E (ts.drop 0) (ks.drop 0) = fin) := hid hfin
          have hok : ∀ E', fin = some E' → inferT S E (ats.drop i) = inferT S E' (ats.drop (i + 1)) := fun E' h => HON.out E' (atomT_ok HFS.out (by show ts.length = ks.length; have := HNT.out; omega) (hfin.trans h))
          have hbad : fin = none → inferT S E (ats.drop i) = (5, []) := fun h => HAT.out 5 [] (atomT_bad HFS.out (by show ts.length = ks.length; have := HNT.out; omega) (hfin.trans h)) (by decide)
          have HOK := hid hok
          have HBAD := hid hbad
          clear hok hbad hfin hlen HON HAT HFS
          go_wp2
          clear t8 tl8 s1 c0 c1 clt
          go_loopw [11, 6] (fun i2 u wr => ∃ (j : Nat) (F : Env), j ≤ ks.length ∧ i2 = .int .i64 j ∧ Hid (termsT F (ts.drop j) (ks.drop j) = fin) ∧ F.length ≤ i * 6 + j ∧ Hid (∀ p ∈ F, p.2 ≠ 0) ∧ Hid (wr.ownsRow (w.heap.size + 1) 66 2 u F.length (vrC F)) ∧ Hid (wr.heap[wo.heap.size]? = some (.cells #[.bool ng, .string Z, .slice T nt ct] 98)) ∧ Hid (Below (w.heap.size + 1) (w.alloc (.cells #[.slice (some ⟨bA, oA, none⟩) ats.length ca, .slice B cds.length cb] 56)) wr)) (fun i2 _ _ => ks.length - (intOf i2).toNat)
          case atStart => exact ⟨0, E, by omega, rfl, HF0, by omega, HN0, HU10, HBX, HB10⟩
          case round =>
            obtain ⟨j, F, hj, rfl, HF, hF6, HN, HV, HBY, HB11⟩ := hrel
            clear HF0 HU10 HBX hbel
            obtain ⟨c0, c1, clt, hbel⟩ := rul_cells HB11.out
            have hszr := hbel.size
            have hsz11 : w.heap.size + 1 ≤ wr.heap.size := by have := HB11.out.size; simpa using this
            by_cases hjl : j < ks.length
            · have hjt : j < ts.length := by have := HNT.out; have := HLEN.out; omega
              have hjn : j < nt := by have := HLEN.out; omega
              obtain ⟨bt, ot, rfl, hct⟩ := rtsO HTS0.out (by omega)
              obtain ⟨bK, oK, rfl, hck⟩ := HKD.out (by omega)
              have g0 := cell_keep hbel (hct j hjt).1
              have g1 := cell_keep hbel (hct j hjt).2
              have k0 := cell_keep hbel (hck j hjl)
              have K0 := hid (hck j hjl)
              have hkn := HKNZ.out ks[j] (List.getElem_mem hjl)
              have hon := fun F' h0 => termsT_on (E := F) (E' := F') hjt hjl h0
              have hbad := fun h0 => termsT_bad (E := F) hjt hjl h0
              have hway := termT_ways F ts[j] ks[j]
              obtain ⟨kd, ekd⟩ : ∃ k, ks[j] = k := ⟨_, rfl⟩
              obtain ⟨⟨v, ⟨ck, cn, cx⟩⟩, et⟩ : ∃ t, ts[j] = t := ⟨_, rfl⟩
              rw [ekd] at k0 hkn hon hbad hway K0
              rw [et] at g0 g1 hon hbad hway
              simp only at g0 g1 hway
              obtain ⟨X, hX, _, hXl⟩ := nm v
              rw [hX] at g0
              have hno := noS hXl
              have hbT := below_one wr (.cells #[.string X, .int .i64 ck] 100)
              have t8 := cell_of_heap (o := 2) (v := .slice (some ⟨bt, ot, none⟩) nt ct) HBY.out rfl
              have tl8 := lt_of_block HBY.out
              have HV2 := hid (HV.out.alloc (.cells #[.string X, .int .i64 ck] 100))
              have HBY2 := hid (res_keep' HBY.out hbT tl8)
              have HTB := hid (heap_alloc_new wr (.cells #[.string X, .int .i64 ck] 100))
              have HB12 := hid (HB11.out.alloc hsz11 (.cells #[.string X, .int .i64 ck] 100))
              have HXL := hid hXl
              have hgl := cell_lt g0
              have hkl := cell_lt k0
              have HON2 := hid hon
              have HBAD2 := hid hbad
              clear hct hck et ekd hX hXl hbT HV HBY HB11 hon hbad
              rcases hway with ⟨hv, hck, ht⟩ | ⟨hv, hck, ht⟩ | ⟨hv, hg, ht⟩ | ⟨q, hv, hg, hq, ht⟩ | ⟨hv, hg, ht⟩
              · have hz : X.toList.isEmpty = true := by rw [hno]; simpa using hv
                have bk : (ck != kd) = false := by simpa using hck
                have HF2 := hid ((HON2.out F ht).symm.trans HF.out)
                clear hno hv hck ht HON2 HBAD2 HF
                go_wp2
                go_roundw
                case rel => exact ⟨j + 1, F, by omega, by go_num, HF2, by omega, HN, HV2, HBY2, HB12⟩
                case measure => simp [intOf]; omega
              · have hz : X.toList.isEmpty = true := by rw [hno]; simpa using hv
                have bk : (ck != kd) = true := by simpa using hck
                have hxx := HI.out.symm.trans (HBAD.out (HF.out.symm.trans (HBAD2.out ht)))
                subst hxx
                have hb12 := hbel.trans ((below_one wr (.cells #[.string X, .int .i64 ck] 100)).mono hbel.size)
                clear hno hv hck ht HON2 HBAD2 HF HI HOK HBAD
                go_wp2
                go_ret2
                exact ⟨_, rfl, World.ownsRow_nil _ _ _ _, by simp, hb12⟩
              · have hz : X.toList.isEmpty = false := by rw [hno]; simpa using hv
                have HF2 := hid ((HON2.out F ht).symm.trans HF.out)
                have bk : (kd != kd) = false := by simp
                have b0 : (kd == 0) = false := by simpa using hkn
                obtain ⟨U, cu, hu, hvr, _⟩ := own_vars HV2.out
                subst hu
                have C3 := hid (ref_kind F U cu X v HXL.out _ hvr (by omega) (kindE_some hg))
                clear hno hv hg ht HON2 HBAD2 HF hvr
                go_wp2_with fail
                refine C3.out.mono ?_
                rintro e w7 ⟨rfl, b7⟩
                have HV3 := hid (own_belowS HV2.out b7)
                have HBY3 := hid (res_keep' HBY2.out b7 (lt_of_block HBY2.out))
                have HB13 := hid (HB12.out.trans (b7.mono (by have := HB12.out.size; simpa using this)))
                have k1 := cell_keep ((below_one wr (.cells #[.string X, .int .i64 ck] 100)).trans (b7.mono (below_one wr (.cells #[.string X, .int .i64 ck] 100)).size)) k0
                clear C3 b7
                go_wp2
                go_roundw
                case rel => exact ⟨j + 1, F, by omega, by go_num, HF2, by omega, HN, HV3, HBY3, HB13⟩
                case measure => simp [intOf]; omega
              · have hz : X.toList.isEmpty = false := by rw [hno]; simpa using hv
                have hxx := HI.out.symm.trans (HBAD.out (HF.out.symm.trans (HBAD2.out ht)))
                subst hxx
                have bk : (q != kd) = true := by simpa using hq
                have hq0 : q ≠ 0 := by
                  obtain ⟨pp, hpp, hpq⟩ := getE_mem hg
                  rw [← hpq]
                  exact HN.out pp hpp
                have b0 : (q == 0) = false := by simpa using hq0
                obtain ⟨U, cu, hu, hvr, _⟩ := own_vars HV2.out
                subst hu
                have C3 := hid (ref_kind F U cu X v HXL.out _ hvr (by omega) (kindE_some hg))
                clear hno hv hg ht HON2 HBAD2 HF hvr HI HOK HBAD hq
                go_wp2_with fail
                refine C3.out.mono ?_
                rintro e w7 ⟨rfl, b7⟩
                have hb7 := hbel.trans (((below_one wr (.cells #[.string X, .int .i64 ck] 100)).trans (b7.mono (below_one wr (.cells #[.string X, .int .i64 ck] 100)).size)).mono hbel.size)
                have k1 := cell_keep ((below_one wr (.cells #[.string X, .int .i64 ck] 100)).trans (b7.mono (below_one wr (.cells #[.string X, .int .i64 ck] 100)).size)) k0
                clear C3 b7
                go_wp2
                go_ret2
                exact ⟨_, rfl, World.ownsRow_nil _ _ _ _, by simp, hb7⟩
              · have hz : X.toList.isEmpty = false := by rw [hno]; simpa using hv
                have HF2 := hid ((HON2.out (F ++ [(v, kd)]) ht).symm.trans HF.out)
                have HSN : Hid (vrC (F ++ [(v, kd)]) = vrC F ++ [.string X, .int .i64 kd]) := hid (by rw [vrC_snoc]; congr 3; exact nmX HXL.out)
                have HN2 : Hid (∀ p ∈ F ++ [(v, kd)], p.2 ≠ 0) := hid (fun p hp => by
                  rcases List.mem_append.1 hp with hp | hp
                  · exact HN.out p hp
                  · rw [List.mem_singleton] at hp
                    subst hp
                    exact hkn)
                have bk : (kd != kd) = false := by simp
                obtain ⟨U, cu, hu, hvr, _⟩ := own_vars HV2.out
                subst hu
                have C3 := hid (ref_kind F U cu X v HXL.out _ hvr (by omega) (kindE_none hg))
                clear hno hv hg ht HON2 HBAD2 HF hvr
                go_wp2_with fail
                refine C3.out.mono ?_
                rintro e w7 ⟨rfl, b7⟩
                have HV3 := hid (own_belowS HV2.out b7)
                have HBY3 := hid (res_keep' HBY2.out b7 (lt_of_block HBY2.out))
                have HB13 := hid (HB12.out.trans (b7.mono (by have := HB12.out.size; simpa using this)))
                have k1 := cell_keep ((below_one wr (.cells #[.string X, .int .i64 ck] 100)).trans (b7.mono (below_one wr (.cells #[.string X, .int .i64 ck] 100)).size)) k0
                have htb := res_keep' HTB.out b7 (by simp)
                have x0 := cell_of_heap (o := 0) (v := .string X) htb rfl
                have xl := lt_of_block htb
                have hw7 : w.heap.size + 1 ≤ w7.heap.size := by have := HB13.out.size; simpa using this
                clear C3 b7 htb
                go_upto_region 20 with fail
                go_region_law (refine step_append_new_drew Try.underlying63 hi hy0 hy1 hy2 rfl (by decide) (by decide) rfl rfl rfl HV3.out rfl rfl rfl (by omega) hw7 ?_; intro v9 w9 hown9 hg9; have k2 := cell_keep (rul_cells ((HB13.out.drew).grown hg9 hw7 (fun k e => (HV3.out.lt k e).1))).2.2.2 K0.out)
                all_goals
                  rw [← HSN.out] at hown9
                  have HV9 : Hid (w9.ownsRow (w.heap.size + 1) 66 2 v9 (F ++ [(v, kd)]).length (vrC (F ++ [(v, kd)]))) := hid (by rw [List.length_append, List.length_singleton]; exact hown9)
                  have HBY9 := hid ((hg9.block wo.heap.size (lt_of_block HBY3.out) (own_ne_box HV3.out HBY3.out (by decide))).trans HBY3.out)
                  have HB14 := hid ((HB13.out.drew).grown hg9 hw7 (fun k e => (HV3.out.lt k e).1))
                  clear hown9 hg9 x0 xl k0 k1 g0 g1 t8
                  go_wp2
                  go_roundw
                  case rel => exact ⟨j + 1, F ++ [(v, kd)], by omega, by go_num, HF2, by simp; omega, HN2, HV9, HBY9, HB14⟩
                  case measure => simp [intOf]; omega
            · have hff : fin = some F := HF.out.symm.trans (termsT_end (by have := HNT.out; have := HLEN.out; omega))
              have HI2 := hid ((HOK.out F hff).symm.trans HI.out)
              have hj6 : j ≤ 6 := by have := HLEN.out; omega
              clear HF hff HI HOK HBAD
              go_wp2
              go_roundw
              case rel => exact ⟨i + 1, F, by omega, by go_num, HI2, by omega, HN, HV, HB11⟩
              case measure => simp [intOf]; omega
        · have bq : ((ks.length : Int) != (nt : Int)) = true := by rw [bne_iff_ne]; omega
          have hxx := HI.out.symm.trans (HAT.out 6 [] (atomT_len HFS.out (by show ts.length ≠ ks.length; have := HNT.out; omega)) (by decide))
          subst hxx
          clear HI HON HAT HFS hlen
          go_wp2
          go_ret2
          exact ⟨_, rfl, World.ownsRow_nil _ _ _ _, by simp, hbel⟩
    · have hxx := HI.out.symm.trans (inferT_end hlt)
      subst hxx
      have HUM := hid (own_mono (B := w.heap.size) HU.out (by omega))
      clear HI HU
      go_wp2
      go_ret2
      exact ⟨_, rfl, HUM.out, by show E.length ≤ 100; omega, hbel⟩
end Go.Proofs.Ytgeapgbebbapmaa
