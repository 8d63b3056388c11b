/-
  WALK: ast.Order.
-/
import Derived.Test.YtgeapgbebbapmaaDoorOrd1
import Derived.Test.YtgeapgbebbapmaaDoorMv
namespace Go.Proofs.YtgeapgbebbapmaaDoor
open Go.RowKit

theorem own_ne_map {P : Program} {e k t : TypeId} {α : Type} {E : Elem α} {w : World} {b n B z m : Nat} {F : Str → Option α} {v : Value} {xs : List Value} (hm : MapAt P e k E w b n F) (h : w.ownsRow B t z v m xs) : some b ≠ v.ownBlock := by
  obtain ⟨D, ⟨es, clock, hb, _⟩, _⟩ := hm
  rcases h.2 with ⟨rfl, _⟩ | ⟨g, cap, cur, rfl, _, hh, _⟩
  · simp [Value.ownBlock]
  · intro e
    have e : b = g := by simpa [Value.ownBlock] using e
    subst e
    rw [hb] at hh
    injection hh with hh
    cases hh

set_option maxRecDepth 100000 in
set_option maxHeartbeats 8000000 in
theorem ast_order (q : Qry) (A R O : Option Addr) (ch cr co : Nat) (w : World) (hq : QryIn w q A R O ch cr co) (hwf : q.wf) (hh : q.head.length ≤ 100000) (ho : q.order.length ≤ 100000) :
    Calls Tryd.prog 21 #[qryV q A R O ch cr co] w (RetK w (orderK q)) := by
  have HW := hid hwf.order
  have HWH := hid hwf.head
  have hmm := @run_makeMap Tryd.prog
  obtain ⟨k0, hk0, hk1, hk2, hk3⟩ := info_parts infoKeyN
  have HH := hid hq.head
  have HOr := hid hq.order
  have C1 := fun W h => hid (clone_keys O co q.order W h ho)
  have hov : ordV q = keysV (q.order.take q.order.length) := by rw [List.take_length]; rfl
  have HOV := hid hov
  obtain ⟨Y, hY⟩ : ∃ Y : ByteArray, (⟨q.aggVar.toArray⟩ : ByteArray) = Y := ⟨_, rfl⟩
  have hqv : qryV q A R O ch cr co = .agg #[.slice A q.head.length ch, .int .i64 q.agg, .string Y, .slice R q.rules.length cr, .slice O q.order.length co] := by unfold qryV; rw [hY]
  rw [hqv]
  have HB0 : Hid (Below (w.heap.size + 1) (w.alloc (.cells #[.slice A q.head.length ch, .int .i64 q.agg, .string Y, .slice R q.rules.length cr, .slice O q.order.length co] 26)) (w.alloc (.cells #[.slice A q.head.length ch, .int .i64 q.agg, .string Y, .slice R q.rules.length cr, .slice O q.order.length co] 26))) := hid (Below.refl _ _)
  obtain ⟨q0, q1, q2, q3, q4, qlt, hbel⟩ := qry_cells HB0.out
  clear hY hqv hq hwf hov
  go_enter Tryd.func21, Tryd.ntmps21
  go_wp2_with fail
  refine (C1 _ (HOr.out.below hbel)).out.mono ?_
  rintro e w1 ⟨u, rfl, ho1, b1⟩
  have HB1 := hid (HB0.out.trans (b1.mono (by simp)))
  have ho1' : w1.ownsRow (w.heap.size + 1) 44 2 u q.order.length (q.order.flatMap cellsK) := by
    have := ho1
    rw [World.size_alloc] at this
    exact this
  obtain ⟨A0, c0, rfl, _, _⟩ := ren_keys ho1'
  have HO1 := hid ho1'
  have HM0 := hid (SetAt.made w1)
  have HBM : Hid (Below w1.heap.size w1 (w1.alloc (.map #[] 0))) := hid (below_one w1 _)
  have hw1 : w.heap.size + 1 ≤ w1.heap.size := by have := HB1.out.size; simpa using this
  clear C1 b1 HB0 q0 q1 q2 q3 q4 qlt hbel ho1 ho1'
  obtain ⟨q0, q1, q2, q3, q4, qlt, hbel⟩ := qry_cells (HB1.out.trans (HBM.out.mono hw1))
  have HM0' : Hid (SetAt (w1.alloc (.map #[] 0)) w1.heap.size 0 (keysV (q.order.take 0))) := HM0
  clear HM0
  go_wp2
  clear q0 q1 q2 q3 q4 qlt hbel
  go_loopw [16] (fun i wr => ∃ k : Nat, k ≤ q.order.length ∧ i = .int .i64 k ∧ Hid (SetAt wr w1.heap.size k (keysV (q.order.take k))) ∧ Hid (Below w1.heap.size w1 wr)) (fun i _ => q.order.length - (intOf i).toNat)
  case atStart => exact ⟨0, by omega, rfl, HM0', HBM⟩
  case round =>
    clear HM0' HBM
    obtain ⟨k, hk, rfl, HS, HB⟩ := hrel
    obtain ⟨q0, q1, q2, q3, q4, qlt, hbel⟩ := qry_cells (HB1.out.trans (HB.out.mono hw1))
    have hsz := HB.out.size
    by_cases hlt : k < q.order.length
    · obtain ⟨bb, o, rfl, hc⟩ := HOr.out (by omega)
      obtain ⟨d0, d1⟩ := hc k hlt
      replace d0 := cell_keep hbel d0
      replace d1 := cell_keep hbel d1
      have hsu := keysV_succ hlt
      have hvl := HW.out q.order[k] (List.getElem_mem hlt)
      generalize q.order[k] = ky at *
      obtain ⟨v, ds⟩ := ky
      simp only at *
      obtain ⟨Z, hZ, hZd, hZl⟩ := nm v
      clear hZl
      rw [hZ] at d0
      have hZs := maxLen_of hZd hvl
      have HBN := hid (HB.out.alloc hsz (.cells #[.string Z, .bool ds] 44))
      have HSN := hid (HS.out.alloc (.cells #[.string Z, .bool ds] 44))
      have Hsu := hid hsu
      have HZ := hid hZd
      clear hc hZ hZd hsu HB HS hbel
      go_wp2_with (at_mapUpdate; refine wpList_put rfl _ _ _ rfl HSN.out Tryd.underlying9 Tryd.underlying87 (by unfold maxLen; omega) rfl Z rfl hZs true rfl EB_true ?_; intro w2 hmap2 hg2)
      rw [HZ.out, setF_put, ← Hsu.out] at hmap2
      have hb2 := HBN.out.grown hg2 (by simp; omega) (fun j hj => by injection hj; omega)
      go_roundw
      case rel => exact ⟨k + 1, by omega, by go_num, hid hmap2, hid hb2⟩
      case measure => simp [intOf]; omega
    · have hke : k = q.order.length := by omega
      have HSE : Hid (SetAt wr w1.heap.size k (ordV q)) := hid (by rw [HOV.out, ← hke]; exact HS.out)
      have HBE := hid (HB1.out.trans (HB.out.mono hw1))
      have HOE : Hid (wr.ownsRow (w.heap.size + 1) 44 2 (.slice A0 q.order.length c0) q.order.length ((q.order ++ restK q (q.head.take 0)).flatMap cellsK)) := hid (by
        have := own_belowS HO1.out HB.out
        simpa [restK] using this)
      have hw2 : w1.heap.size ≤ wr.heap.size := HB.out.size
      obtain ⟨L0, hL0⟩ : ∃ L, q.order ++ restK q (q.head.take 0) = L := ⟨_, rfl⟩
      have hl0 : L0.length = q.order.length := by rw [← hL0]; simp [restK]
      have HLN := hid hl0
      rw [hL0] at HOE
      have HL0 := hid hL0
      obtain ⟨n, hn⟩ : ∃ n, k = n := ⟨_, rfl⟩
      rw [hn] at HSE
      clear hn hL0 HS HO1 HB hsz hl0 hke
      go_wp2
      clear q0 q1 q2 q3 q4 qlt hbel
      rename World => wo
      go_loopw [27, 3] (fun i u wr => ∃ (k nl : Nat) (L : List Ky) (A1 : Option Addr) (c1 : Nat), k ≤ q.head.length ∧ i = .int .i64 k ∧ u = .slice A1 nl c1 ∧ nl ≤ 100000 + k ∧ Hid (L.length = nl) ∧ Hid (q.order ++ restK q (q.head.take k) = L) ∧ Hid (wr.ownsRow (w.heap.size + 1) 44 2 (.slice A1 nl c1) nl (L.flatMap cellsK)) ∧ Hid (SetAt wr w1.heap.size n (ordV q)) ∧ Hid (Below (w.heap.size + 1) (w.alloc (.cells #[.slice A q.head.length ch, .int .i64 q.agg, .string Y, .slice R q.rules.length cr, .slice O q.order.length co] 26)) wr)) (fun i _ _ => q.head.length - (intOf i).toNat)
      case atStart => exact ⟨0, q.order.length, L0, A0, c0, by omega, rfl, rfl, by omega, HLN, HL0, HOE, HSE, HBE⟩
      case round =>
        clear HOE HSE HBE HL0 HLN
        obtain ⟨k, nl, L, A1, c1, hk, rfl, rfl, hLl, HLN, HL, HO, HS, HB⟩ := hrel
        obtain ⟨q0, q1, q2, q3, q4, qlt, hbel⟩ := qry_cells HB.out
        have hsz := HB.out.size
        rw [World.size_alloc] at hsz
        by_cases hlt : k < q.head.length
        · obtain ⟨bb, o, rfl, hc⟩ := HH.out (by omega)
          have d0 := cell_keep hbel (hc k hlt)
          have hvl := HWH.out q.head[k] (List.getElem_mem hlt)
          have hin := fun h => restK_in (q := q) hlt h
          have hnew := fun h => restK_new (q := q) hlt h
          obtain ⟨v, ev⟩ : ∃ v, q.head[k] = v := ⟨_, rfl⟩
          rw [ev] at d0 hvl hin hnew
          obtain ⟨Z, hZ, hZd, hZl⟩ := nm v
          clear hZl
          rw [hZ] at d0
          have hZs := maxLen_of hZd hvl
          by_cases hm : v ∈ ordV q
          · have HN : Hid (q.order ++ restK q (q.head.take (k + 1)) = L) := hid (by rw [hin hm]; exact HL.out)
            have hv : EB.R ((setF (ordV q) Z.data.toList).getD false) = .bool true := by rw [hZd, setF_get, decide_eq_true hm]; rfl
            have HV := hid hv
            clear hc hZ hZd hin hnew hv hm HL hvl ev
            go_wp2_with (at_lookup; refine wpList_look rfl _ _ rfl HS.out EB_ok Tryd.underlying9 Tryd.underlying87 rfl Z rfl hZs (.bool true) HV.out ?_)
            go_roundw
            case rel => exact ⟨k + 1, nl, L, A1, c1, by omega, by go_num, rfl, by omega, HLN, HN, HO, HS, HB⟩
            case measure => simp [intOf]; omega
          · have HN : Hid (q.order ++ restK q (q.head.take (k + 1)) = L ++ [(⟨v, false⟩ : Ky)]) := hid (by rw [hnew hm, ← HL.out, List.append_assoc])
            have hv : EB.R ((setF (ordV q) Z.data.toList).getD false) = .bool false := by rw [hZd, setF_get, decide_eq_false hm]; rfl
            have HV := hid hv
            have HZ := hid hZ
            have HSA := hid (HS.out.alloc (.cells #[.string Z, .bool false] 44))
            have HOA := hid (own_belowS HO.out (below_one wr (.cells #[.string Z, .bool false] 44)))
            clear hc hZ hZd hin hnew hv hm HL hvl ev
            go_wp2_with (first
              | (at_lookup; refine wpList_look rfl _ _ rfl HS.out EB_ok Tryd.underlying9 Tryd.underlying87 rfl Z rfl hZs (.bool false) HV.out ?_)
              | (at_builtin; refine wpList_append_new2 (news := [.string Z, .bool false]) Tryd.underlying24 hk0 hk1 hk2 hk3 rfl (by decide) (by decide) rfl rfl rfl HO.out rfl (by simp) rfl rfl (by omega) (by omega) ?_; intro v3 w3 hown3 hg3; obtain ⟨g3, cap3, rfl⟩ := own_slice1 hown3))
            have HO3 : Hid (w3.ownsRow (w.heap.size + 1) 44 2 (.slice (some ⟨g3, 0, none⟩) (nl + 1) cap3) (nl + 1) ((L ++ [(⟨v, false⟩ : Ky)]).flatMap cellsK)) := hid (by
              rw [List.flatMap_append, show [(⟨v, false⟩ : Ky)].flatMap cellsK = [.string Z, .bool false] by rw [← HZ.out]; rfl]
              exact hown3)
            have HB3 := hid (HB.out.trans (grown_below HO.out hg3 (by omega)))
            have HS3 : Hid (SetAt w3 w1.heap.size n (ordV q)) := hid (HS.out.kept hg3 (own_ne_map HS.out HO.out))
            have HLN3 : Hid ((L ++ [(⟨v, false⟩ : Ky)]).length = nl + 1) := hid (by rw [List.length_append, HLN.out]; rfl)
            clear HO HB hown3 hg3 HS HSA HOA
            go_roundw
            case rel => exact ⟨k + 1, nl + 1, L ++ [⟨v, false⟩], _, _, by omega, by go_num, rfl, by omega, HLN3, HN, HO3, HS3, HB3⟩
            case measure => simp [intOf]; omega
        · have hke : k = q.head.length := by omega
          have hfin : orderK q = L := by
            rw [← HL.out, hke, List.take_length]; rfl
          have hown := own_lower HO.out (show w.heap.size ≤ w.heap.size + 1 by omega)
          have hbb := hbel
          have HR := hid hfin
          clear HL hfin hke HS HO
          go_wp2
          go_ret
          unfold RetK
          rw [HR.out, HLN.out]
          exact ⟨_, rfl, hown, hbb⟩
end Go.Proofs.YtgeapgbebbapmaaDoor
