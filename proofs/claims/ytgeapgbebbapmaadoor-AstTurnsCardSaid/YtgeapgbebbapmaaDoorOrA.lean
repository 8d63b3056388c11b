/-
  WALKS: slices.Clone at keys, ast.Order. TOOLS: several own rows of one element type that grow in turn.
-/
import Derived.Test.YtgeapgbebbapmaaDoorRfs
import Derived.Test.YtgeapgbebbapmaaDoorRenM
import Derived.Test.YtgeapgbebbapmaaDoorRenK
import Derived.Test.YtgeapgbebbapmaaDoorAst10
import Derived.Test.YtgeapgbebbapmaaDoorMv
import Derived.Maps.AppendAt
namespace Go.Proofs.YtgeapgbebbapmaaDoor
open Go.RowKit

/-! ### Ord1 -/

/-- A result that is an own row of keys. -/
def RetK (w : World) (l : List Ky) (e : Ending) (w' : World) : Prop := ∃ v, e = .returned v ∧ w'.ownsRow w.heap.size 44 2 v l.length (l.flatMap cellsK) ∧ Below w.heap.size w w'
theorem ky_cells {w : World} {b o : Nat} {l : List Ky} (hc : ∀ i (h : i < l.length), w.cell? ⟨b, o + i * 2, none⟩ = some (.string ⟨l[i].v.toArray⟩) ∧ w.cell? ⟨b, o + i * 2 + 1, none⟩ = some (.bool l[i].desc)) :
    ∀ j u, (l.flatMap cellsK)[j]? = some u → w.cell? (Addr.add ⟨b, o, none⟩ j) = some u := by
  intro j u hu
  have hlen := ren_len (f := cellsK) (k := 2) (fun _ => rfl) l
  have hj : j < l.length * 2 := by rw [← hlen]; exact (List.getElem?_eq_some_iff.1 hu).1
  have hi : j / 2 < l.length := by omega
  have hg := ren_get (f := cellsK) (k := 2) (fun _ => rfl) l (j / 2) (j % 2) hi (by omega)
  have hj2 : j / 2 * 2 + j % 2 = j := by omega
  rw [hj2, hu] at hg
  obtain ⟨c0, c1⟩ := hc (j / 2) hi
  rw [Addr.add_lit]
  have h2 : j % 2 = 0 ∨ j % 2 = 1 := by omega
  rcases h2 with h2 | h2
  · rw [h2] at hg
    have : o + j = o + j / 2 * 2 := by omega
    rw [this, c0]; exact hg.symm ▸ rfl
  · rw [h2] at hg
    have : o + j = o + j / 2 * 2 + 1 := by omega
    rw [this, c1]; exact hg.symm ▸ rfl

set_option maxRecDepth 100000 in
set_option maxHeartbeats 4000000 in
theorem clone_keys (A : Option Addr) (c : Nat) (l : List Ky) (w : World) (h : KysAt w A l) (hm : l.length ≤ 100000) :
    Calls Tryd.prog 50 #[.slice A l.length c] w (RetK w l) := by
  obtain ⟨k0, hk0, hk1, hk2, hk3⟩ := info_parts infoKeyN
  have q22 : ∀ (w : World) (a : Option Addr) (n c n' c' : Nat), (binOp .eql 24 (.slice a n c) (.slice none n' c')).run Tryd.prog w = .ok (.bool a.isNone) w := fun w a n c n' c' => Lib.run_eql_slice_nil w _ _ a n c n' c' Tryd.underlying24
  cases A with
  | none =>
    have hl : l = [] := by
      cases l with
      | nil => rfl
      | cons x xs => obtain ⟨b, o, e, _⟩ := h (by simp); cases e
    subst hl
    clear h hm
    go_enter Tryd.func50, Tryd.ntmps50
    go_wp2
    go_ret
    exact ⟨_, rfl, World.ownsRow_nil _ _ _ _, Below.refl _ _⟩
  | some ad =>
    have hcell : ∀ j u, (l.flatMap cellsK)[j]? = some u → w.cell? (ad.add j) = some u := by
      by_cases hl : l = []
      · subst hl; intro j u hu; simp at hu
      · obtain ⟨b, o, e, hc⟩ := h (List.length_pos_iff.2 hl)
        injection e with e
        subst e
        exact ky_cells hc
    have HC := hid hcell
    have hone : ∀ u ∈ l.flatMap cellsK, u.oneCell' = true := fun u hu => by
      obtain ⟨k, _, hk⟩ := List.mem_flatMap.1 hu
      simp only [cellsK, List.mem_cons, List.not_mem_nil, or_false] at hk
      rcases hk with rfl | rfl <;> rfl
    have HO := hid hone
    have HLEN := hid (ren_len (f := cellsK) (k := 2) (fun _ => rfl) l)
    obtain ⟨n, hn⟩ : ∃ n, l.length = n := ⟨_, rfl⟩
    obtain ⟨xs, hxs⟩ : ∃ x, l.flatMap cellsK = x := ⟨_, rfl⟩
    unfold RetK
    rw [hxs] at HC HO HLEN ⊢
    rw [hn] at hm HLEN ⊢
    clear h hcell hone hn hxs
    go_enter Tryd.func50, Tryd.ntmps50
    go_wp2_with (at_builtin; refine wpList_append_own _ rfl _ _ 24 rfl w.heap.size 44 k0 _ 2 24 Tryd.underlying24 hk0 hk1 hk2 hk3 rfl (by decide) _ _ _ rfl (World.ownsRow_made w #[] 0 (Nat.le_refl _) (Nat.zero_le _) rfl) ad n c xs rfl ?qc1 ?qc2 ?qc3 ?qc4 ?qc5 ?qc6 ?_)
    case qc1 => exact HLEN.out
    case qc2 =>
      intro j u hj
      exact Lib.cell?_alloc_some _ (HC.out j u hj)
    case qc3 => exact HO.out
    case qc4 => unfold maxLen; omega
    case qc5 => omega
    case qc6 => simp
    intro v' w1 hown hgrow hnil
    go_wp2
    go_ret
    refine ⟨v', rfl, by simpa using hown, ?_⟩
    exact ((Below.refl _ w).alloc (Nat.le_refl _) _).grown hgrow (by simp) (by intro k hk; simp [Value.ownBlock] at hk; omega)

/-! ### Ord2 -/

theorem own_ne_map {P : Program} {e k t : TypeId} {α : Type} {E : Elem α} {w : World} {b n B z m : Nat} {F : Str → Option α} {v : Value} {xs : List Value} (hm : MapAt P e k E w b n F) (h : w.ownsRow B t z v m xs) : some b ≠ v.ownBlock := by
  obtain ⟨D, ⟨es, clock, hb, _⟩, _⟩ := hm
  rcases h.2 with ⟨rfl, _⟩ | ⟨g, cap, cur, rfl, _, hh, _⟩
  · simp [Value.ownBlock]
  · intro e
    have e : b = g := by simpa [Value.ownBlock] using e
    subst e
    rw [hb] at hh
    injection hh with hh
    cases hh

set_option maxRecDepth 100000 in
set_option maxHeartbeats 8000000 in
theorem ast_order (q : Qry) (A R O : Option Addr) (ch cr co : Nat) (w : World) (hq : QryIn w q A R O ch cr co) (hwf : q.wf) (hh : q.head.length ≤ 100000) (ho : q.order.length ≤ 100000) :
    Calls Tryd.prog 21 #[qryV q A R O ch cr co] w (RetK w (orderK q)) := by
  have HW := hid hwf.order
  have HWH := hid hwf.head
  have hmm := @run_makeMap Tryd.prog
  obtain ⟨k0, hk0, hk1, hk2, hk3⟩ := info_parts infoKeyN
  have HH := hid hq.head
  have HOr := hid hq.order
  have C1 := fun W h => hid (clone_keys O co q.order W h ho)
  have hov : ordV q = keysV (q.order.take q.order.length) := by rw [List.take_length]; rfl
  have HOV := hid hov
  obtain ⟨Y, hY⟩ : ∃ Y : ByteArray, (⟨q.aggVar.toArray⟩ : ByteArray) = Y := ⟨_, rfl⟩
  have hqv : qryV q A R O ch cr co = .agg #[.slice A q.head.length ch, .int .i64 q.agg, .string Y, .slice R q.rules.length cr, .slice O q.order.length co] := by unfold qryV; rw [hY]
  rw [hqv]
  have HB0 : Hid (Below (w.heap.size + 1) (w.alloc (.cells #[.slice A q.head.length ch, .int .i64 q.agg, .string Y, .slice R q.rules.length cr, .slice O q.order.length co] 26)) (w.alloc (.cells #[.slice A q.head.length ch, .int .i64 q.agg, .string Y, .slice R q.rules.length cr, .slice O q.order.length co] 26))) := hid (Below.refl _ _)
  obtain ⟨q0, q1, q2, q3, q4, qlt, hbel⟩ := qry_cells HB0.out
  clear hY hqv hq hwf hov
  go_enter Tryd.func21, Tryd.ntmps21
  go_wp2_with fail
  refine (C1 _ (HOr.out.below hbel)).out.mono ?_
  rintro e w1 ⟨u, rfl, ho1, b1⟩
  have HB1 := hid (HB0.out.trans (b1.mono (by simp)))
  have ho1' : w1.ownsRow (w.heap.size + 1) 44 2 u q.order.length (q.order.flatMap cellsK) := by
    have := ho1
    rw [World.size_alloc] at this
    exact this
  obtain ⟨A0, c0, rfl, _, _⟩ := ren_keys ho1'
  have HO1 := hid ho1'
  have HM0 := hid (SetAt.made w1)
  have HBM : Hid (Below w1.heap.size w1 (w1.alloc (.map #[] 0))) := hid (below_one w1 _)
  have hw1 : w.heap.size + 1 ≤ w1.heap.size := by have := HB1.out.size; simpa using this
  clear C1 b1 HB0 q0 q1 q2 q3 q4 qlt hbel ho1 ho1'
  obtain ⟨q0, q1, q2, q3, q4, qlt, hbel⟩ := qry_cells (HB1.out.trans (HBM.out.mono hw1))
  have HM0' : Hid (SetAt (w1.alloc (.map #[] 0)) w1.heap.size 0 (keysV (q.order.take 0))) := HM0
  clear HM0
  go_wp2
  clear q0 q1 q2 q3 q4 qlt hbel
  go_loopw [16] (fun i wr => ∃ k : Nat, k ≤ q.order.length ∧ i = .int .i64 k ∧ Hid (SetAt wr w1.heap.size k (keysV (q.order.take k))) ∧ Hid (Below w1.heap.size w1 wr)) (fun i _ => q.order.length - (intOf i).toNat)
  case atStart => exact ⟨0, by omega, rfl, HM0', HBM⟩
  case round =>
    clear HM0' HBM
    obtain ⟨k, hk, rfl, HS, HB⟩ := hrel
    obtain ⟨q0, q1, q2, q3, q4, qlt, hbel⟩ := qry_cells (HB1.out.trans (HB.out.mono hw1))
    have hsz := HB.out.size
    by_cases hlt : k < q.order.length
    · obtain ⟨bb, o, rfl, hc⟩ := HOr.out (by omega)
      obtain ⟨d0, d1⟩ := hc k hlt
      replace d0 := cell_keep hbel d0
      replace d1 := cell_keep hbel d1
      have hsu := keysV_succ hlt
      have hvl := HW.out q.order[k] (List.getElem_mem hlt)
      generalize q.order[k] = ky at *
      obtain ⟨v, ds⟩ := ky
      simp only at *
      obtain ⟨Z, hZ, hZd, hZl⟩ := nm v
      clear hZl
      rw [hZ] at d0
      have hZs := maxLen_of hZd hvl
      have HBN := hid (HB.out.alloc hsz (.cells #[.string Z, .bool ds] 44))
      have HSN := hid (HS.out.alloc (.cells #[.string Z, .bool ds] 44))
      have Hsu := hid hsu
      have HZ := hid hZd
      clear hc hZ hZd hsu HB HS hbel
      go_wp2_with (at_mapUpdate; refine wpList_put rfl _ _ _ rfl HSN.out Tryd.underlying9 Tryd.underlying87 (by unfold maxLen; omega) rfl Z rfl hZs true rfl EB_true ?_; intro w2 hmap2 hg2)
      rw [HZ.out, setF_put, ← Hsu.out] at hmap2
      have hb2 := HBN.out.grown hg2 (by simp; omega) (fun j hj => by injection hj; omega)
      go_roundw
      case rel => exact ⟨k + 1, by omega, by go_num, hid hmap2, hid hb2⟩
      case measure => simp [intOf]; omega
    · have hke : k = q.order.length := by omega
      have HSE : Hid (SetAt wr w1.heap.size k (ordV q)) := hid (by rw [HOV.out, ← hke]; exact HS.out)
      have HBE := hid (HB1.out.trans (HB.out.mono hw1))
      have HOE : Hid (wr.ownsRow (w.heap.size + 1) 44 2 (.slice A0 q.order.length c0) q.order.length ((q.order ++ restK q (q.head.take 0)).flatMap cellsK)) := hid (by
        have := own_belowS HO1.out HB.out
        simpa [restK] using this)
      have hw2 : w1.heap.size ≤ wr.heap.size := HB.out.size
      obtain ⟨L0, hL0⟩ : ∃ L, q.order ++ restK q (q.head.take 0) = L := ⟨_, rfl⟩
      have hl0 : L0.length = q.order.length := by rw [← hL0]; simp [restK]
      have HLN := hid hl0
      rw [hL0] at HOE
      have HL0 := hid hL0
      obtain ⟨n, hn⟩ : ∃ n, k = n := ⟨_, rfl⟩
      rw [hn] at HSE
      clear hn hL0 HS HO1 HB hsz hl0 hke
      go_wp2
      clear q0 q1 q2 q3 q4 qlt hbel
      rename World => wo
      go_loopw [27, 3] (fun i u wr => ∃ (k nl : Nat) (L : List Ky) (A1 : Option Addr) (c1 : Nat), k ≤ q.head.length ∧ i = .int .i64 k ∧ u = .slice A1 nl c1 ∧ nl ≤ 100000 + k ∧ Hid (L.length = nl) ∧ Hid (q.order ++ restK q (q.head.take k) = L) ∧ Hid (wr.ownsRow (w.heap.size + 1) 44 2 (.slice A1 nl c1) nl (L.flatMap cellsK)) ∧ Hid (SetAt wr w1.heap.size n (ordV q)) ∧ Hid (Below (w.heap.size + 1) (w.alloc (.cells #[.slice A q.head.length ch, .int .i64 q.agg, .string Y, .slice R q.rules.length cr, .slice O q.order.length co] 26)) wr)) (fun i _ _ => q.head.length - (intOf i).toNat)
      case atStart => exact ⟨0, q.order.length, L0, A0, c0, by omega, rfl, rfl, by omega, HLN, HL0, HOE, HSE, HBE⟩
      case round =>
        clear HOE HSE HBE HL0 HLN
        obtain ⟨k, nl, L, A1, c1, hk, rfl, rfl, hLl, HLN, HL, HO, HS, HB⟩ := hrel
        obtain ⟨q0, q1, q2, q3, q4, qlt, hbel⟩ := qry_cells HB.out
        have hsz := HB.out.size
        rw [World.size_alloc] at hsz
        by_cases hlt : k < q.head.length
        · obtain ⟨bb, o, rfl, hc⟩ := HH.out (by omega)
          have d0 := cell_keep hbel (hc k hlt)
          have hvl := HWH.out q.head[k] (List.getElem_mem hlt)
          have hin := fun h => restK_in (q := q) hlt h
          have hnew := fun h => restK_new (q := q) hlt h
          obtain ⟨v, ev⟩ : ∃ v, q.head[k] = v := ⟨_, rfl⟩
          rw [ev] at d0 hvl hin hnew
          obtain ⟨Z, hZ, hZd, hZl⟩ := nm v
          clear hZl
          rw [hZ] at d0
          have hZs := maxLen_of hZd hvl
          by_cases hm : v ∈ ordV q
          · have HN : Hid (q.order ++ restK q (q.head.take (k + 1)) = L) := hid (by rw [hin hm]; exact HL.out)
            have hv : EB.R ((setF (ordV q) Z.data.toList).getD false) = .bool true := by rw [hZd, setF_get, decide_eq_true hm]; rfl
            have HV := hid hv
            clear hc hZ hZd hin hnew hv hm HL hvl ev
            go_wp2_with (at_lookup; refine wpList_look rfl _ _ rfl HS.out EB_ok Tryd.underlying9 Tryd.underlying87 rfl Z rfl hZs (.bool true) HV.out ?_)
            go_roundw
            case rel => exact ⟨k + 1, nl, L, A1, c1, by omega, by go_num, rfl, by omega, HLN, HN, HO, HS, HB⟩
            case measure => simp [intOf]; omega
          · have HN : Hid (q.order ++ restK q (q.head.take (k + 1)) = L ++ [(⟨v, false⟩ : Ky)]) := hid (by rw [hnew hm, ← HL.out, List.append_assoc])
            have hv : EB.R ((setF (ordV q) Z.data.toList).getD false) = .bool false := by rw [hZd, setF_get, decide_eq_false hm]; rfl
            have HV := hid hv
            have HZ := hid hZ
            have HSA := hid (HS.out.alloc (.cells #[.string Z, .bool false] 44))
            have HOA := hid (own_belowS HO.out (below_one wr (.cells #[.string Z, .bool false] 44)))
            clear hc hZ hZd hin hnew hv hm HL hvl ev
            go_wp2_with (first
              | (at_lookup; refine wpList_look rfl _ _ rfl HS.out EB_ok Tryd.underlying9 Tryd.underlying87 rfl Z rfl hZs (.bool false) HV.out ?_)
              | (at_builtin; refine wpList_append_new2 (news := [.string Z, .bool false]) Tryd.underlying24 hk0 hk1 hk2 hk3 rfl (by decide) (by decide) rfl rfl rfl HO.out rfl (by simp) rfl rfl (by omega) (by omega) ?_; intro v3 w3 hown3 hg3; obtain ⟨g3, cap3, rfl⟩ := own_slice1 hown3))
            have HO3 : Hid (w3.ownsRow (w.heap.size + 1) 44 2 (.slice (some ⟨g3, 0, none⟩) (nl + 1) cap3) (nl + 1) ((L ++ [(⟨v, false⟩ : Ky)]).flatMap cellsK)) := hid (by
              rw [List.flatMap_append, show [(⟨v, false⟩ : Ky)].flatMap cellsK = [.string Z, .bool false] by rw [← HZ.out]; rfl]
              exact hown3)
            have HB3 := hid (HB.out.trans (grown_below HO.out hg3 (by omega)))
            have HS3 : Hid (SetAt w3 w1.heap.size n (ordV q)) := hid (HS.out.kept hg3 (own_ne_map HS.out HO.out))
            have HLN3 : Hid ((L ++ [(⟨v, false⟩ : Ky)]).length = nl + 1) := hid (by rw [List.length_append, HLN.out]; rfl)
            clear HO HB hown3 hg3 HS HSA HOA
            go_roundw
            case rel => exact ⟨k + 1, nl + 1, L ++ [⟨v, false⟩], _, _, by omega, by go_num, rfl, by omega, HLN3, HN, HO3, HS3, HB3⟩
            case measure => simp [intOf]; omega
        · have hke : k = q.head.length := by omega
          have hfin : orderK q = L := by
            rw [← HL.out, hke, List.take_length]; rfl
          have hown := own_lower HO.out (show w.heap.size ≤ w.heap.size + 1 by omega)
          have hbb := hbel
          have HR := hid hfin
          clear HL hfin hke HS HO
          go_wp2
          go_ret
          unfold RetK
          rw [HR.out, HLN.out]
          exact ⟨_, rfl, hown, hbb⟩

/-! ### Two -/

/-- 'append(out, x, ..)' that tells where the row lies behind it. -/
theorem wpList_append_new_at {P : Program} {w0 : World} {news : List Value} {ops : Array Oper} {rest : List Oper} {o : Oper} {a : Act} {Q : Exit → Act → World → Prop} {t e : TypeId} {i : TypeInfo} {z : Value} {size bytes : Nat}
    (ht : P.underlying t = some (.slice e)) (hi : P.info? e = some i) (hz : i.zero = some z) (hsize : i.size = size) (hby : i.bytes = bytes) (hzs : z.cells.size = size) (hsz : 0 < size) (hb1 : 0 < bytes)
    (hgd : o.guard = none) {s x : Operand} (ho : o.op = .call { callee := .builtin .append, args := #[s, x], argTypes := #[t, t] })
    {base : Nat} {v : Value} {n : Nat} {xs : List Value} (hs : a.eval s = v) (hown : w0.ownsRow base e size v n xs) {g m c : Nat} (hx : a.eval x = .slice (some ⟨g, 0, none⟩) m c) (hg : g = w0.heap.size)
    (hl : news.length = m * size) (h1 : news.all (·.oneCell') = true) (hlim : (n + m) * bytes ≤ 140737488355328) (hbase : base ≤ w0.heap.size)
    (h : ∀ v' w', w'.ownsRow base e size v' (n + m) (xs ++ news) → w0.grownBy w' v.ownBlock → (v'.ownBlock = v.ownBlock ∨ v'.ownBlock = some (w0.heap.size + 1)) → wpList P ops Q rest (a.put o.dst v') w') : wpList P ops Q (o :: rest) a (w0.alloc (.cells news.toArray e)) := by
  subst hg
  have h63 : n + m ≤ maxLen := by
    have := Nat.le_mul_of_pos_right (n + m) hb1
    simp only [maxLen]; omega
  refine wpList_append_own_at _ hgd s x t ho base e i z size bytes ht hi hz hsize hby hzs hsz v n xs hs (hown.alloc _) ⟨w0.heap.size, 0, none⟩ m c news hx hl ?_ (by simpa [List.all_eq_true] using h1) h63 hlim (by simp; omega) ?_
  · intro j u hu
    have hc : (w0.alloc (.cells news.toArray e)).heap[w0.heap.size]? = some (.cells news.toArray e (0, 0)) := heap_alloc_new w0 _
    have : Addr.add ⟨w0.heap.size, 0, none⟩ j = ⟨w0.heap.size, j, none⟩ := by unfold Addr.add; by_cases hj : j = 0 <;> simp [hj]
    rw [this, cell_of_row _ w0.heap.size j _ e (0, 0) hc]
    simpa using hu
  · intro v' w' h2 h3 _ h5
    exact h v' w' h2 ⟨h3.os, h3.tape, h3.output, Nat.le_trans (by simp) h3.size, fun k hk hne => (h3.block k (by simp; omega) hne).trans (Below.heap_alloc _ _ _ hk)⟩ (by simpa using h5)
/-- Two rows in different blocks. -/
def Apart (v u : Value) : Prop := ∀ k, v.ownBlock = some k → u.ownBlock ≠ some k
theorem Apart.symm {v u : Value} (h : Apart v u) : Apart u v := fun k h1 h2 => h k h2 h1
theorem Apart.nil (u : Value) : Apart (.slice none 0 0) u := fun k h => by simp [Value.ownBlock] at h
section
variable {w w' : World} {B e z n m : Nat} {v v' u : Value} {xs : List Value}
theorem Apart.kept (h : w.ownsRow B e z u n xs) (ha : Apart v u) (hg : w.grownBy w' v.ownBlock) : w'.ownsRow B e z u n xs := by
  refine h.kept hg ?_
  cases hu : u.ownBlock with
  | none => exact .inl rfl
  | some k => exact .inr fun e => ha k e.symm hu
theorem Apart.next (h : w.ownsRow B e z u n xs) (ha : Apart v u) (hat : v'.ownBlock = v.ownBlock ∨ v'.ownBlock = some m) (hm : w.heap.size ≤ m) : Apart v' u := by
  rcases hat with hat | hat
  · exact fun k hk => ha k (hat ▸ hk)
  · intro k hk hu
    have h1 := (h.lt k hu).2
    rw [hat] at hk
    injection hk with hk
    omega
theorem Apart.of {B2 e2 z2 n2 : Nat} {w2 : World} {ys : List Value} (h : w.ownsRow B e z v n xs) (h2 : w2.ownsRow B2 e2 z2 u n2 ys) (hb : w.heap.size ≤ B2) : Apart v u := fun k hk hu => by
  have h3 := (h.lt k hk).2
  have h4 := (h2.lt k hu).1
  omega
end
theorem own_nms {w : World} {B n c : Nat} {A : Option Addr} {l : List Str} (h : w.ownsRow B 9 1 (.slice A n c) n (l.map nmV)) (hn : l.length = n) : NmsAt w A l := by
  subst hn
  obtain ⟨_, _, hu, hA, _⟩ := own_names h
  injection hu with e1 _ _
  rw [e1]; exact hA
/-- A row of keys that a call has returned. -/
def RetKy (w : World) (l : List Ky) (n : Nat) (e : Ending) (w' : World) : Prop := ∃ A c, e = .returned (.slice A n c) ∧ KysAt w' A l ∧ Below w.heap.size w w'
theorem RetK.at {w w' : World} {l : List Ky} {n : Nat} {e : Ending} (h : RetK w l e w') (hn : l.length = n) : RetKy w l n e w' := by
  obtain ⟨v, rfl, ho, hb⟩ := h
  obtain ⟨A, c, rfl, hk, _⟩ := ren_keys ho
  subst hn
  exact ⟨A, c, rfl, hk, hb⟩
end Go.Proofs.YtgeapgbebbapmaaDoor
