/-
  WALKS: the law: size, Great, awake (layer 19).
-/
import Derived.Test.YtgeapgbebbapmaaDoorAst12
import Derived.Test.YtgeapgbebbapmaaDoorCoh
import Derived.Deep.QuietTactic
import Derived.BigQuiet
import Derived.Test.YtgeapgbebbapmaaDoorPrt
namespace Go.Proofs.YtgeapgbebbapmaaDoor
open Go.RowKit

/-! ### Lw19a -/

def SomeB (w : World) (e : Ending) (w' : World) : Prop := ∃ b, e = .returned (.bool b) ∧ Below w.heap.size w w'
def SomeI (w : World) (e : Ending) (w' : World) : Prop := ∃ n : Int, e = .returned (.int .i64 n) ∧ Below w.heap.size w w'

set_option maxRecDepth 100000 in
set_option maxHeartbeats 16000000 in
theorem law_size19 (q : Qry) (A R O : Option Addr) (ch cr co : Nat) (w : World) (hq : QryIn w q A R O ch cr co) :
    Calls Tryd.prog 25 #[qryV q A R O ch cr co] w (SomeI w) := by
  have HH := hid hq.head
  have HR := hid hq.rules
  have HO := hid hq.order
  have mh := hq.mh
  have mr := hq.mr
  have mo := hq.mo
  obtain ⟨Y, hY⟩ : ∃ Y : ByteArray, (⟨q.aggVar.toArray⟩ : ByteArray) = Y := ⟨_, rfl⟩
  unfold qryV
  rw [hY]
  clear hY hq
  obtain ⟨hd, ga, av, rs, os⟩ := q
  simp only at HH HR HO mh mr mo ⊢
  have HB0 : Hid (Below (w.heap.size + 1) (w.alloc (.cells #[.slice A hd.length ch, .int .i64 ga, .string Y, .slice R rs.length cr, .slice O os.length co] 26)) (w.alloc (.cells #[.slice A hd.length ch, .int .i64 ga, .string Y, .slice R rs.length cr, .slice O os.length co] 26))) := hid (Below.refl _ _)
  go_enter Tryd.func25, Tryd.ntmps25
  go_wp2
  go_loopw [4, 3] (fun i n wr => ∃ (k : Nat) (m : Int), k ≤ hd.length ∧ i = .int .i64 k ∧ n = .int .i64 m ∧ Hid (Below (w.heap.size + 1) (w.alloc (.cells #[.slice A hd.length ch, .int .i64 ga, .string Y, .slice R rs.length cr, .slice O os.length co] 26)) wr)) (fun i _ _ => hd.length - (intOf i).toNat)
  case atStart => exact ⟨0, _, by omega, rfl, rfl, HB0⟩
  case round =>
    obtain ⟨k, m, hk, rfl, rfl, HB⟩ := hrel
    clear HB0
    obtain ⟨q0, q1, q2, q3, q4, qlt, hbel⟩ := qry_cells HB.out
    by_cases hlt : k < hd.length
    · obtain ⟨bb, o, rfl, hc⟩ := HH.out (by omega)
      have c0 := cell_keep hbel (hc k hlt)
      obtain ⟨Z, hZ⟩ : ∃ Y : ByteArray, (⟨hd[k].toArray⟩ : ByteArray) = Y := ⟨_, rfl⟩
      rw [hZ] at c0
      clear hc hZ
      go_wp2
      go_roundw
      case rel => exact ⟨k + 1, _, by omega, by go_num, rfl, HB⟩
      case measure => simp [intOf]; omega
    · go_wp2
      clear q0 q1 q2 q3 q4 qlt hbel
      go_loopw [5, 3] (fun i n wr => ∃ (k : Nat) (m : Int), k ≤ os.length ∧ i = .int .i64 k ∧ n = .int .i64 m ∧ Hid (Below (w.heap.size + 1) (w.alloc (.cells #[.slice A hd.length ch, .int .i64 ga, .string Y, .slice R rs.length cr, .slice O os.length co] 26)) wr)) (fun i _ _ => os.length - (intOf i).toNat)
      case atStart => exact ⟨0, _, by omega, rfl, rfl, HB⟩
      case round =>
        clear HB
        obtain ⟨k, m, hk, rfl, rfl, HB⟩ := hrel
        obtain ⟨q0, q1, q2, q3, q4, qlt, hbel⟩ := qry_cells HB.out
        by_cases hlt : k < os.length
        · obtain ⟨bb, o, rfl, hc⟩ := HO.out (by omega)
          have c0 := cell_keep hbel (hc k hlt).1
          obtain ⟨Z, hZ⟩ : ∃ Y : ByteArray, (⟨os[k].v.toArray⟩ : ByteArray) = Y := ⟨_, rfl⟩
          rw [hZ] at c0
          clear hc hZ
          go_wp2
          go_roundw
          case rel => exact ⟨k + 1, _, by omega, by go_num, rfl, HB⟩
          case measure => simp [intOf]; omega
        · go_wp2
          clear q0 q1 q2 q3 q4 qlt hbel
          go_loopw [6, 3] (fun i n wr => ∃ (k : Nat) (m : Int), k ≤ rs.length ∧ i = .int .i64 k ∧ n = .int .i64 m ∧ Hid (Below (w.heap.size + 1) (w.alloc (.cells #[.slice A hd.length ch, .int .i64 ga, .string Y, .slice R rs.length cr, .slice O os.length co] 26)) wr)) (fun i _ _ => rs.length - (intOf i).toNat)
          case atStart => exact ⟨0, _, by omega, rfl, rfl, HB⟩
          case round =>
            clear HB
            obtain ⟨k, m, hk, rfl, rfl, HB⟩ := hrel
            obtain ⟨q0, q1, q2, q3, q4, qlt, hbel⟩ := qry_cells HB.out
            by_cases hlt : k < rs.length
            · obtain ⟨br, o, rfl, hc⟩ := HR.out (by omega)
              obtain ⟨TA, ca, TC, cc, c0, c1, hra, hrc, _, _, hma, hmc⟩ := hc k hlt
              obtain ⟨ru, er⟩ : ∃ r, rs[k] = r := ⟨_, rfl⟩
              rw [er] at c0 c1 hra hrc hma hmc
              have C0 := hid c0
              have C1 := hid c1
              have HRA := hid hra
              have HRC := hid hrc
              clear hc er hra hrc c0 c1
              have c0 := cell_keep hbel C0.out
              go_wp2
              clear q0 q1 q2 q3 q4 qlt hbel c0
              go_loopw [7, 3] (fun i n wr => ∃ (j : Nat) (m : Int), j ≤ ru.atoms.length ∧ i = .int .i64 j ∧ n = .int .i64 m ∧ Hid (Below (w.heap.size + 1) (w.alloc (.cells #[.slice A hd.length ch, .int .i64 ga, .string Y, .slice (some ⟨br, o, none⟩) rs.length cr, .slice O os.length co] 26)) wr)) (fun i _ _ => ru.atoms.length - (intOf i).toNat)
              case atStart => exact ⟨0, _, by omega, rfl, rfl, HB⟩
              case round =>
                clear HB
                obtain ⟨j, m2, hj, rfl, rfl, HB⟩ := hrel
                obtain ⟨q0, q1, q2, q3, q4, qlt, hbel⟩ := qry_cells HB.out
                have c0 := cell_keep hbel C0.out
                have c1 := cell_keep hbel C1.out
                by_cases hlt2 : j < ru.atoms.length
                · obtain ⟨ba, oa, rfl, hca⟩ := HRA.out (by omega)
                  obtain ⟨T, ct, d0, d1, d2, hts, _, hmt⟩ := hca j hlt2
                  replace d0 := cell_keep hbel d0
                  replace d1 := cell_keep hbel d1
                  replace d2 := cell_keep hbel d2
                  obtain ⟨⟨ng, rel, ts⟩, ea⟩ : ∃ a, ru.atoms[j] = a := ⟨_, rfl⟩
                  rw [ea] at d0 d1 d2 hts hmt
                  simp only at d0 d1 d2 hts hmt
                  obtain ⟨Z, hZ⟩ : ∃ Y : ByteArray, (⟨rel.toArray⟩ : ByteArray) = Y := ⟨_, rfl⟩
                  rw [hZ] at d1
                  have HTS := hid hts
                  have HBN : Hid (Below (wr.heap.size + 1) (wr.alloc (.cells #[.bool ng, .string Z, .slice T ts.length ct] 60)) (wr.alloc (.cells #[.bool ng, .string Z, .slice T ts.length ct] 60))) := hid (Below.refl _ _)
                  have hsz := HB.out.size
                  simp only [World.size_alloc] at hsz
                  have HUp := hid (HB.out.alloc (by omega) (.cells #[.bool ng, .string Z, .slice T ts.length ct] 60))
                  obtain ⟨wo, rfl⟩ : ∃ wo : World, wo = wr := ⟨_, rfl⟩
                  clear hca ea hZ hts
                  go_wp2
                  clear q0 q1 q2 q3 q4 qlt c0 c1 d0 d1 d2
                  go_loopw [9, 3] (fun i n wx => ∃ (l : Nat) (m : Int), l ≤ ts.length ∧ i = .int .i64 l ∧ n = .int .i64 m ∧ Hid (wx.heap[wo.heap.size]? = some (.cells #[.bool ng, .string Z, .slice T ts.length ct] 60)) ∧ Hid (Below (w.heap.size + 1) (w.alloc (.cells #[.slice A hd.length ch, .int .i64 ga, .string Y, .slice (some ⟨br, o, none⟩) rs.length cr, .slice O os.length co] 26)) wx)) (fun i _ _ => ts.length - (intOf i).toNat)
                  case atStart => exact ⟨0, _, by omega, rfl, rfl, hid (heap_alloc_new wo (.cells #[.bool ng, .string Z, .slice T ts.length ct] 60)), HUp⟩
                  case round =>
                    obtain ⟨l, m3, hl, rfl, rfl, HT, HBx⟩ := hrel
                    clear HUp HBN
                    have t2 := coh HT.out (o := 2) rfl
                    have hbw := (qry_cells HBx.out).2.2.2.2.2.2
                    by_cases hlt3 : l < ts.length
                    · obtain ⟨bt, ot, rfl, hct⟩ := HTS.out (by omega)
                      obtain ⟨f0, f1, f2, f3⟩ := hct l hlt3
                      replace f0 := cell_keep hbw f0
                      replace f3 := cell_keep hbw f3
                      obtain ⟨X, hX⟩ : ∃ Y : ByteArray, (⟨ts[l].v.toArray⟩ : ByteArray) = Y := ⟨_, rfl⟩
                      obtain ⟨X2, hX2⟩ : ∃ Y : ByteArray, ts[l].c.s = Y := ⟨_, rfl⟩
                      rw [hX] at f0
                      rw [hX2] at f3
                      clear hct hX hX2 f1 f2 hbw
                      go_wp2
                      go_quiet (fail)
                      go_wp2
                      go_roundw
                      case rel => exact ⟨l + 1, _, by omega, by go_num, rfl, HT, hid (below_drewN HBx.out _)⟩
                      case measure => simp [intOf]; omega
                    · have HB2 := HBx
                      go_wp2
                      go_roundw
                      case rel => exact ⟨j + 1, _, by omega, by go_num, rfl, HB2⟩
                      case measure => simp [intOf]; omega
                · go_wp2
                  clear q0 q1 q2 q3 q4 qlt hbel c0 c1
                  go_loopw [10, 3] (fun i n wr => ∃ (j : Nat) (m : Int), j ≤ ru.conds.length ∧ i = .int .i64 j ∧ n = .int .i64 m ∧ Hid (Below (w.heap.size + 1) (w.alloc (.cells #[.slice A hd.length ch, .int .i64 ga, .string Y, .slice (some ⟨br, o, none⟩) rs.length cr, .slice O os.length co] 26)) wr)) (fun i _ _ => ru.conds.length - (intOf i).toNat)
                  case atStart => exact ⟨0, _, by omega, rfl, rfl, HB⟩
                  case round =>
                    clear HB
                    obtain ⟨j, m2, hj, rfl, rfl, HB⟩ := hrel
                    obtain ⟨q0, q1, q2, q3, q4, qlt, hbel⟩ := qry_cells HB.out
                    have c0 := cell_keep hbel C0.out
                    have c1 := cell_keep hbel C1.out
                    by_cases hlt2 : j < ru.conds.length
                    · obtain ⟨bc, oc, rfl, hca⟩ := HRC.out (by omega)
                      obtain ⟨f0, f1, f2, f3, f4⟩ := hca j hlt2
                      replace f0 := cell_keep hbel f0
                      replace f4 := cell_keep hbel f4
                      obtain ⟨X, hX⟩ : ∃ Y : ByteArray, (⟨ru.conds[j].v.toArray⟩ : ByteArray) = Y := ⟨_, rfl⟩
                      obtain ⟨X2, hX2⟩ : ∃ Y : ByteArray, ru.conds[j].c.s = Y := ⟨_, rfl⟩
                      rw [hX] at f0
                      rw [hX2] at f4
                      clear hca hX hX2 f1 f2 f3
                      go_wp2
                      go_quiet (fail)
                      go_wp2
                      go_roundw
                      case rel => exact ⟨j + 1, _, by omega, by go_num, rfl, hid (below_drewN HB.out _)⟩
                      case measure => simp [intOf]; omega
                    · go_wp2
                      go_roundw
                      case rel => exact ⟨k + 1, _, by omega, by go_num, rfl, HB⟩
                      case measure => simp [intOf]; omega
            · clear HB
              go_wp2
              go_ret
              exact ⟨_, rfl, hbel⟩

set_option maxRecDepth 100000 in
theorem law_great19 (q : Qry) (A R O : Option Addr) (ch cr co : Nat) (w : World) (hq : QryIn w q A R O ch cr co) :
    Calls Tryd.prog 9 #[qryV q A R O ch cr co] w (SomeB w) := by
  have C := fun W h => hid (law_size19 q A R O ch cr co W h)
  have HQ := hid hq
  obtain ⟨Y, hY⟩ : ∃ Y : ByteArray, (⟨q.aggVar.toArray⟩ : ByteArray) = Y := ⟨_, rfl⟩
  unfold qryV at C ⊢
  rw [hY] at C ⊢
  have HB0 : Hid (Below (w.heap.size + 1) (w.alloc (.cells #[.slice A q.head.length ch, .int .i64 q.agg, .string Y, .slice R q.rules.length cr, .slice O q.order.length co] 26)) (w.alloc (.cells #[.slice A q.head.length ch, .int .i64 q.agg, .string Y, .slice R q.rules.length cr, .slice O q.order.length co] 26))) := hid (Below.refl _ _)
  obtain ⟨_, _, _, _, _, qlt, hbel⟩ := qry_cells HB0.out
  clear hY hq
  go_enter Tryd.func9, Tryd.ntmps9
  go_wp2_with fail
  refine (C _ (HQ.out.below hbel)).out.mono ?_
  rintro e w1 ⟨n, rfl, b1⟩
  have hb := hbel.trans (b1.mono hbel.size)
  clear C b1 HB0 hbel
  go_wp2
  go_ret
  exact ⟨_, rfl, hb⟩

/-! ### Lw19b -/

def tv (c : UInt8) : Trm := ⟨[c], zV⟩
def one19 : V := ⟨1, 1, ⟨#[]⟩⟩
def at1 : Atm := ⟨false, [114], [tv 120, tv 122]⟩
def at2 : Atm := ⟨true, [115], [tv 121, ⟨[], one19⟩]⟩
def at3 : Atm := ⟨false, [114], [tv 122, tv 121]⟩
def cd19 : Cnd := ⟨[122], 2, ⟨1, 5, ⟨#[]⟩⟩⟩
def rul19 : Rul := ⟨[at1, at2, at3], [cd19]⟩
def q19 : Qry := ⟨[[120], [121]], 0, [], [rul19], [⟨[121], true⟩]⟩
def txt19 : Str := [97, 110, 115, 40, 120, 44, 32, 121, 41, 32, 58, 45, 32, 114, 40, 120, 44, 32, 122, 41, 44, 32, 110, 111, 116, 32, 115, 40, 121, 44, 32, 49, 41, 44, 32, 114, 40, 122, 44, 32, 121, 41, 44, 32, 122, 32, 60, 32, 53, 32, 111, 114, 100, 101, 114, 32, 121, 32, 100, 101, 115, 99]
theorem check19 : checkQ q19 = 0 := by kernel_rfl
theorem text19 : textQ q19 = txt19 := by kernel_rfl
theorem print19 : printQ q19 = (txt19, 0) := by unfold printQ; rw [if_pos check19, text19]

theorem infoTrm19 : (Tryd.prog.info? 56).map (·.size) = some 4 := by kernel_rfl
theorem infoQry19 : (Tryd.prog.info? 26).map (·.size) = some 5 := by kernel_rfl

set_option maxRecDepth 100000 in
/-- The literal function of awake: a term that is a variable. -/
theorem law_v (X : ByteArray) (w : World) :
    Calls Tryd.prog 26 #[.string X] w fun e w' => e = .returned (.agg #[.string X, .int .i64 0, .int .i64 0, .string ⟨#[]⟩]) ∧ Below w.heap.size w w' := by
  have k0 := below_one w (.cells #[.string ⟨#[]⟩, .int .i64 0, .int .i64 0, .string ⟨#[]⟩] 56)
  have hz := heap_alloc_new w (.cells #[.string ⟨#[]⟩, .int .i64 0, .int .i64 0, .string ⟨#[]⟩] 56)
  go_enter Tryd.func26, Tryd.ntmps26
  go_wp2_with (refine wpList_stored rfl rfl rfl rfl hz infoTrm19 rfl rfl ?_; intro w3 hz3 hb3)
  refine bodyPost_ret (by simp [results, Tryd.results26, go_sem, cell_res' hz3]; rfl) rfl ?_
  exact ⟨rfl, k0.trans hb3⟩

/-- New rows. -/
theorem nms_two19 (w : World) (a b : UInt8) (e : TypeId) : NmsAt (w.alloc (.cells #[.string ⟨#[a]⟩, .string ⟨#[b]⟩] e)) (some ⟨w.heap.size, 0, none⟩) [[a], [b]] := fun _ => ⟨_, _, rfl, fun i hi => by
  have hn := heap_alloc_new w (.cells #[.string ⟨#[a]⟩, .string ⟨#[b]⟩] e)
  have hj : i < 2 := hi
  match i, hj with
  | 0, _ => exact coh hn rfl
  | 1, _ => exact coh hn rfl⟩
theorem kys_new19 (w : World) (a : UInt8) (d : Bool) (e : TypeId) : KysAt (w.alloc (.cells #[.string ⟨#[a]⟩, .bool d] e)) (some ⟨w.heap.size, 0, none⟩) [⟨[a], d⟩] := fun _ => ⟨_, _, rfl, fun i hi => by
  have hn := heap_alloc_new w (.cells #[.string ⟨#[a]⟩, .bool d] e)
  have hj : i < 1 := hi
  match i, hj with
  | 0, _ => exact ⟨coh hn rfl, coh hn rfl⟩⟩
theorem trms_new19 (w : World) (s t : Trm) (e : TypeId) : TrmsAt (w.alloc (.cells #[.string ⟨s.v.toArray⟩, .int .i64 s.c.k, .int .i64 s.c.n, .string s.c.s, .string ⟨t.v.toArray⟩, .int .i64 t.c.k, .int .i64 t.c.n, .string t.c.s] e)) (some ⟨w.heap.size, 0, none⟩) [s, t] := fun _ => ⟨_, _, rfl, fun i hi => by
  have hn := heap_alloc_new w (.cells #[.string ⟨s.v.toArray⟩, .int .i64 s.c.k, .int .i64 s.c.n, .string s.c.s, .string ⟨t.v.toArray⟩, .int .i64 t.c.k, .int .i64 t.c.n, .string t.c.s] e)
  have hj : i < 2 := hi
  match i, hj with
  | 0, _ => exact ⟨coh hn rfl, coh hn rfl, coh hn rfl, coh hn rfl⟩
  | 1, _ => exact ⟨coh hn rfl, coh hn rfl, coh hn rfl, coh hn rfl⟩⟩
theorem cnds_new19 (w : World) (s : Cnd) (e : TypeId) : CndsAt (w.alloc (.cells #[.string ⟨s.v.toArray⟩, .int .i64 s.op, .int .i64 s.c.k, .int .i64 s.c.n, .string s.c.s] e)) (some ⟨w.heap.size, 0, none⟩) [s] := fun _ => ⟨_, _, rfl, fun i hi => by
  have hn := heap_alloc_new w (.cells #[.string ⟨s.v.toArray⟩, .int .i64 s.op, .int .i64 s.c.k, .int .i64 s.c.n, .string s.c.s] e)
  have hj : i < 1 := hi
  match i, hj with
  | 0, _ => exact ⟨coh hn rfl, coh hn rfl, coh hn rfl, coh hn rfl, coh hn rfl⟩⟩
theorem atms_new19 (w : World) (a b c : Atm) (n1 n2 n3 : Nat) (e : TypeId) (h1 : TrmsAt w (some ⟨n1, 0, none⟩) a.ts) (h2 : TrmsAt w (some ⟨n2, 0, none⟩) b.ts) (h3 : TrmsAt w (some ⟨n3, 0, none⟩) c.ts) (l1 : a.ts.length = 2) (l2 : b.ts.length = 2) (l3 : c.ts.length = 2) :
    AtmsAt (w.alloc (.cells #[.bool a.neg, .string ⟨a.rel.toArray⟩, .slice (some ⟨n1, 0, none⟩) 2 2, .bool b.neg, .string ⟨b.rel.toArray⟩, .slice (some ⟨n2, 0, none⟩) 2 2, .bool c.neg, .string ⟨c.rel.toArray⟩, .slice (some ⟨n3, 0, none⟩) 2 2] e)) (some ⟨w.heap.size, 0, none⟩) [a, b, c] := fun _ => ⟨_, _, rfl, fun i hi => by
  have hn := heap_alloc_new w (.cells #[.bool a.neg, .string ⟨a.rel.toArray⟩, .slice (some ⟨n1, 0, none⟩) 2 2, .bool b.neg, .string ⟨b.rel.toArray⟩, .slice (some ⟨n2, 0, none⟩) 2 2, .bool c.neg, .string ⟨c.rel.toArray⟩, .slice (some ⟨n3, 0, none⟩) 2 2] e)
  have hj : i < 3 := hi
  match i, hj with
  | 0, _ => exact ⟨some ⟨n1, 0, none⟩, 2, coh hn rfl, coh hn rfl, by rw [show ([a, b, c] : List Atm)[0].ts.length = 2 from l1]; exact coh hn rfl, h1.below (below_one w _), by show a.ts.length ≤ 2; omega, by show a.ts.length ≤ _; omega⟩
  | 1, _ => exact ⟨some ⟨n2, 0, none⟩, 2, coh hn rfl, coh hn rfl, by rw [show ([a, b, c] : List Atm)[1].ts.length = 2 from l2]; exact coh hn rfl, h2.below (below_one w _), by show b.ts.length ≤ 2; omega, by show b.ts.length ≤ _; omega⟩
  | 2, _ => exact ⟨some ⟨n3, 0, none⟩, 2, coh hn rfl, coh hn rfl, by rw [show ([a, b, c] : List Atm)[2].ts.length = 2 from l3]; exact coh hn rfl, h3.below (below_one w _), by show c.ts.length ≤ 2; omega, by show c.ts.length ≤ _; omega⟩⟩
theorem ruls_new19 (w : World) (A B : Nat) (e : TypeId) (h : AtmsAt w (some ⟨A, 0, none⟩) rul19.atoms) (h2 : CndsAt w (some ⟨B, 0, none⟩) rul19.conds) :
    RulsAt (w.alloc (.cells #[.slice (some ⟨A, 0, none⟩) 3 3, .slice (some ⟨B, 0, none⟩) 1 1] e)) (some ⟨w.heap.size, 0, none⟩) [rul19] := fun _ => ⟨_, _, rfl, fun i hi => by
  have hn := heap_alloc_new w (.cells #[.slice (some ⟨A, 0, none⟩) 3 3, .slice (some ⟨B, 0, none⟩) 1 1] e)
  have hj2 : i < 1 := hi
  match i, hj2 with
  | 0, _ => exact ⟨_, 3, _, 1, coh hn rfl, coh hn rfl, h.below (below_one w _), h2.below (below_one w _), (by decide : 3 ≤ 3), (by decide : 1 ≤ 1), (by decide : 3 ≤ 9223372036854775807), (by decide : 1 ≤ 9223372036854775807)⟩⟩

theorem i64_small {x : Int} (h : 0 ≤ x) (h2 : x ≤ 100) : I64 x := by unfold I64; omega
theorem V.wf_small {v : V} (h1 : 0 ≤ v.k) (h2 : v.k ≤ 100) (h3 : 0 ≤ v.n) (h4 : v.n ≤ 100) (h5 : v.s.size ≤ 100) : v.wf := ⟨i64_small h1 h2, i64_small h3 h4, by omega⟩
theorem zV_wf19 : zV.wf := V.wf_small (by decide) (by decide) (by decide) (by decide) (by decide)
theorem tv_wf (c : UInt8) : (tv c).wf := ⟨by show 1 ≤ 9223372036854775807; omega, zV_wf19⟩
theorem q19_wf : q19.wf := by
  refine ⟨by decide, i64_small (by decide) (by decide), by decide, ?_, by decide⟩
  intro r hr
  have hr : r ∈ [rul19] := hr
  rw [List.mem_singleton] at hr
  subst hr
  refine ⟨?_, ?_⟩
  · intro a ha
    have ha : a ∈ [at1, at2, at3] := ha
    simp only [List.mem_cons, List.not_mem_nil, or_false] at ha
    rcases ha with rfl | rfl | rfl
    · refine ⟨by decide, fun t ht => ?_⟩
      have ht : t ∈ [tv 120, tv 122] := ht
      simp only [List.mem_cons, List.not_mem_nil, or_false] at ht
      rcases ht with rfl | rfl <;> exact tv_wf _
    · refine ⟨by decide, fun t ht => ?_⟩
      have ht : t ∈ [tv 121, ⟨[], one19⟩] := ht
      simp only [List.mem_cons, List.not_mem_nil, or_false] at ht
      rcases ht with rfl | rfl
      · exact tv_wf _
      · exact ⟨by decide, V.wf_small (by decide) (by decide) (by decide) (by decide) (by decide)⟩
    · refine ⟨by decide, fun t ht => ?_⟩
      have ht : t ∈ [tv 122, tv 121] := ht
      simp only [List.mem_cons, List.not_mem_nil, or_false] at ht
      rcases ht with rfl | rfl <;> exact tv_wf _
  · intro c hc
    have hc : c ∈ [cd19] := hc
    rw [List.mem_singleton] at hc
    subst hc
    exact ⟨by decide, i64_small (by decide) (by decide), V.wf_small (by decide) (by decide) (by decide) (by decide) (by decide)⟩

/-! ### Lw19c -/

theorem size_at19 {w _w' : World} {n m : Nat} (h : n = m) (hb : NmsAt w (some ⟨n, 0, none⟩) q19.head) : NmsAt w (some ⟨m, 0, none⟩) q19.head := h ▸ hb

set_option maxRecDepth 100000 in
set_option maxHeartbeats 16000000 in
theorem law_awake19 (w : World) (htab : Tab w) : Calls Tryd.prog 10 #[] w fun e w' => e = .returned (.bool true) ∧ Below w.heap.size w w' := by
  have HTab := hid htab
  clear htab
  have hn := nms_two19 w 120 121 9
  have HN0 := hid (hn.below (below_one _ (.cells #[.string ⟨#[121]⟩, .bool true] 44)))
  have hk := kys_new19 (w.alloc (.cells #[.string ⟨#[120]⟩, .string ⟨#[121]⟩] 9)) 121 true 44
  rw [World.size_alloc] at hk
  have HK0 := hid hk
  have HB0 := hid (below_two w (.cells #[.string ⟨#[120]⟩, .string ⟨#[121]⟩] 9) (.cells #[.string ⟨#[121]⟩, .bool true] 44))
  clear hn hk
  go_enter Tryd.func10, Tryd.ntmps10
  go_wp2_with fail
  refine (law_v ⟨#[120]⟩ _).mono ?_
  rintro e w1 ⟨rfl, b1⟩
  have HN1 := hid (HN0.out.below b1)
  have HK1 := hid (HK0.out.below b1)
  have HB1 := hid (HB0.out.trans (b1.mono HB0.out.size))
  clear HN0 HK0 HB0 b1
  go_wp2_with fail
  refine (law_v ⟨#[122]⟩ _).mono ?_
  rintro e w2 ⟨rfl, b2⟩
  have HT1 := hid (trms_new19 w2 (tv 120) (tv 122) 56)
  have b2' := b2.trans ((below_one w2 (.cells #[.string ⟨#[120]⟩, .int .i64 0, .int .i64 0, .string ⟨#[]⟩, .string ⟨#[122]⟩, .int .i64 0, .int .i64 0, .string ⟨#[]⟩] 56)).mono b2.size)
  have HN2 := hid (HN1.out.below b2')
  have HK2 := hid (HK1.out.below b2')
  have HB2 := hid (HB1.out.trans (b2'.mono HB1.out.size))
  clear HN1 HK1 HB1 b2 b2'
  go_wp2_with fail
  refine (law_v ⟨#[121]⟩ _).mono ?_
  rintro e w3 ⟨rfl, b3⟩
  have HT2 := hid (trms_new19 w3 (tv 121) ⟨[], one19⟩ 56)
  have b3' := b3.trans ((below_one w3 (.cells #[.string ⟨#[121]⟩, .int .i64 0, .int .i64 0, .string ⟨#[]⟩, .string ⟨#[]⟩, .int .i64 1, .int .i64 1, .string ⟨#[]⟩] 56)).mono b3.size)
  have HN3 := hid (HN2.out.below b3')
  have HK3 := hid (HK2.out.below b3')
  have HT13 := hid (HT1.out.below b3')
  have HB3 := hid (HB2.out.trans (b3'.mono HB2.out.size))
  clear HN2 HK2 HB2 b3 b3' HT1
  go_wp2_with fail
  refine (law_v ⟨#[122]⟩ _).mono ?_
  rintro e w4 ⟨rfl, b4⟩
  have HN4 := hid (HN3.out.below b4)
  have HK4 := hid (HK3.out.below b4)
  have HT14 := hid (HT13.out.below b4)
  have HT24 := hid (HT2.out.below b4)
  have HB4 := hid (HB3.out.trans (b4.mono HB3.out.size))
  clear HN3 HK3 HB3 b4 HT13 HT2
  go_wp2_with fail
  refine (law_v ⟨#[121]⟩ _).mono ?_
  rintro e w5 ⟨rfl, b5⟩
  have b5' := b5.trans ((below_one w5 (.cells #[.string ⟨#[122]⟩, .int .i64 0, .int .i64 0, .string ⟨#[]⟩, .string ⟨#[121]⟩, .int .i64 0, .int .i64 0, .string ⟨#[]⟩] 56)).mono b5.size)
  have HT3 : Hid (TrmsAt (w5.alloc (.cells #[.string ⟨#[122]⟩, .int .i64 0, .int .i64 0, .string ⟨#[]⟩, .string ⟨#[121]⟩, .int .i64 0, .int .i64 0, .string ⟨#[]⟩] 56)) (some ⟨w5.heap.size, 0, none⟩) at3.ts) := hid (trms_new19 w5 (tv 122) (tv 121) 56)
  have HN5 := hid (HN4.out.below b5')
  have HK5 := hid (HK4.out.below b5')
  have HT15 := hid (HT14.out.below b5')
  have HT25 := hid (HT24.out.below b5')
  have HB5 := hid (HB4.out.trans (b5'.mono HB4.out.size))
  clear HN4 HK4 HB4 b5 b5' HT14 HT24
  obtain ⟨wa, ewa⟩ : ∃ wa, w5.alloc (.cells #[.string ⟨#[122]⟩, .int .i64 0, .int .i64 0, .string ⟨#[]⟩, .string ⟨#[121]⟩, .int .i64 0, .int .i64 0, .string ⟨#[]⟩] 56) = wa := ⟨_, rfl⟩
  rw [ewa] at HT3 HN5 HK5 HT15 HT25 HB5
  have hsa : w5.heap.size + 1 = wa.heap.size := by rw [← ewa]; simp
  have HA : Hid (AtmsAt (wa.alloc (.cells #[.bool false, .string ⟨#[114]⟩, .slice (some ⟨w2.heap.size, 0, none⟩) 2 2, .bool true, .string ⟨#[115]⟩, .slice (some ⟨w3.heap.size, 0, none⟩) 2 2, .bool false, .string ⟨#[114]⟩, .slice (some ⟨w5.heap.size, 0, none⟩) 2 2] 60)) (some ⟨wa.heap.size, 0, none⟩) rul19.atoms) := hid (atms_new19 wa at1 at2 at3 _ _ _ 60 HT15.out HT25.out HT3.out rfl rfl rfl)
  have hC : CndsAt ((wa.alloc (.cells #[.bool false, .string ⟨#[114]⟩, .slice (some ⟨w2.heap.size, 0, none⟩) 2 2, .bool true, .string ⟨#[115]⟩, .slice (some ⟨w3.heap.size, 0, none⟩) 2 2, .bool false, .string ⟨#[114]⟩, .slice (some ⟨w5.heap.size, 0, none⟩) 2 2] 60)).alloc (.cells #[.string ⟨#[122]⟩, .int .i64 2, .int .i64 1, .int .i64 5, .string ⟨#[]⟩] 62)) (some ⟨(wa.alloc (.cells #[.bool false, .string ⟨#[114]⟩, .slice (some ⟨w2.heap.size, 0, none⟩) 2 2, .bool true, .string ⟨#[115]⟩, .slice (some ⟨w3.heap.size, 0, none⟩) 2 2, .bool false, .string ⟨#[114]⟩, .slice (some ⟨w5.heap.size, 0, none⟩) 2 2] 60)).heap.size, 0, none⟩) rul19.conds := cnds_new19 (wa.alloc (.cells #[.bool false, .string ⟨#[114]⟩, .slice (some ⟨w2.heap.size, 0, none⟩) 2 2, .bool true, .string ⟨#[115]⟩, .slice (some ⟨w3.heap.size, 0, none⟩) 2 2, .bool false, .string ⟨#[114]⟩, .slice (some ⟨w5.heap.size, 0, none⟩) 2 2] 60)) cd19 62
  rw [World.size_alloc] at hC
  have hR := ruls_new19 ((wa.alloc (.cells #[.bool false, .string ⟨#[114]⟩, .slice (some ⟨w2.heap.size, 0, none⟩) 2 2, .bool true, .string ⟨#[115]⟩, .slice (some ⟨w3.heap.size, 0, none⟩) 2 2, .bool false, .string ⟨#[114]⟩, .slice (some ⟨w5.heap.size, 0, none⟩) 2 2] 60)).alloc (.cells #[.string ⟨#[122]⟩, .int .i64 2, .int .i64 1, .int .i64 5, .string ⟨#[]⟩] 62)) _ _ 49 (HA.out.below (below_one _ (.cells #[.string ⟨#[122]⟩, .int .i64 2, .int .i64 1, .int .i64 5, .string ⟨#[]⟩] 62))) hC
  rw [World.size_alloc, World.size_alloc] at hR
  have b9 := (below_three wa (.cells #[.bool false, .string ⟨#[114]⟩, .slice (some ⟨w2.heap.size, 0, none⟩) 2 2, .bool true, .string ⟨#[115]⟩, .slice (some ⟨w3.heap.size, 0, none⟩) 2 2, .bool false, .string ⟨#[114]⟩, .slice (some ⟨w5.heap.size, 0, none⟩) 2 2] 60) (.cells #[.string ⟨#[122]⟩, .int .i64 2, .int .i64 1, .int .i64 5, .string ⟨#[]⟩] 62) (.cells #[.slice (some ⟨wa.heap.size, 0, none⟩) 3 3, .slice (some ⟨wa.heap.size + 1, 0, none⟩) 1 1] 49)).trans ((below_one (((wa.alloc (.cells #[.bool false, .string ⟨#[114]⟩, .slice (some ⟨w2.heap.size, 0, none⟩) 2 2, .bool true, .string ⟨#[115]⟩, .slice (some ⟨w3.heap.size, 0, none⟩) 2 2, .bool false, .string ⟨#[114]⟩, .slice (some ⟨w5.heap.size, 0, none⟩) 2 2] 60)).alloc (.cells #[.string ⟨#[122]⟩, .int .i64 2, .int .i64 1, .int .i64 5, .string ⟨#[]⟩] 62)).alloc (.cells #[.slice (some ⟨wa.heap.size, 0, none⟩) 3 3, .slice (some ⟨wa.heap.size + 1, 0, none⟩) 1 1] 49)) (.cells #[.slice (some ⟨w.heap.size, 0, none⟩) 2 2, .int .i64 0, .string ⟨#[]⟩, .slice (some ⟨wa.heap.size + 1 + 1, 0, none⟩) 1 1, .slice (some ⟨w.heap.size + 1, 0, none⟩) 1 1] 26)).mono (below_three wa (.cells #[.bool false, .string ⟨#[114]⟩, .slice (some ⟨w2.heap.size, 0, none⟩) 2 2, .bool true, .string ⟨#[115]⟩, .slice (some ⟨w3.heap.size, 0, none⟩) 2 2, .bool false, .string ⟨#[114]⟩, .slice (some ⟨w5.heap.size, 0, none⟩) 2 2] 60) (.cells #[.string ⟨#[122]⟩, .int .i64 2, .int .i64 1, .int .i64 5, .string ⟨#[]⟩] 62) (.cells #[.slice (some ⟨wa.heap.size, 0, none⟩) 3 3, .slice (some ⟨wa.heap.size + 1, 0, none⟩) 1 1] 49)).size)
  have hq : QryIn ((((wa.alloc (.cells #[.bool false, .string ⟨#[114]⟩, .slice (some ⟨w2.heap.size, 0, none⟩) 2 2, .bool true, .string ⟨#[115]⟩, .slice (some ⟨w3.heap.size, 0, none⟩) 2 2, .bool false, .string ⟨#[114]⟩, .slice (some ⟨w5.heap.size, 0, none⟩) 2 2] 60)).alloc (.cells #[.string ⟨#[122]⟩, .int .i64 2, .int .i64 1, .int .i64 5, .string ⟨#[]⟩] 62)).alloc (.cells #[.slice (some ⟨wa.heap.size, 0, none⟩) 3 3, .slice (some ⟨wa.heap.size + 1, 0, none⟩) 1 1] 49)).alloc (.cells #[.slice (some ⟨w.heap.size, 0, none⟩) 2 2, .int .i64 0, .string ⟨#[]⟩, .slice (some ⟨wa.heap.size + 1 + 1, 0, none⟩) 1 1, .slice (some ⟨w.heap.size + 1, 0, none⟩) 1 1] 26)) q19 (some ⟨w.heap.size, 0, none⟩) (some ⟨wa.heap.size + 1 + 1, 0, none⟩) (some ⟨w.heap.size + 1, 0, none⟩) 2 1 1 :=
    ⟨HN5.out.below b9, hR.below (below_one _ (.cells #[.slice (some ⟨w.heap.size, 0, none⟩) 2 2, .int .i64 0, .string ⟨#[]⟩, .slice (some ⟨wa.heap.size + 1 + 1, 0, none⟩) 1 1, .slice (some ⟨w.heap.size + 1, 0, none⟩) 1 1] 26)), HK5.out.below b9, by decide, by decide, by decide, by decide, by decide, by decide⟩
  have HB9 := hid (HB5.out.trans (b9.mono HB5.out.size))
  have C3 := hid (ast_print q19 _ _ _ 2 1 1 _ hq q19_wf (HTab.out.below HB9.out) print19)
  obtain ⟨S, hS⟩ : ∃ S : ByteArray, (⟨txt19.toArray⟩ : ByteArray) = S := ⟨_, rfl⟩
  simp only at C3
  rw [hS] at C3
  have hSl : (S.toList == txt19) = true := by rw [← hS, Lib.toList_data]; simp
  unfold txt19 at hSl
  clear hS hq hR hC b9 HA HN5 HK5 HT15 HT25 HT3 HB5 hsa
  go_wp2_with fail
  refine C3.out.mono ?_
  rintro e w9 ⟨rfl, b10⟩
  have hb := HB9.out.trans (b10.mono HB9.out.size)
  clear C3 b10 HB9
  go_wp2
  go_ret
  exact ⟨rfl, hb⟩
end Go.Proofs.YtgeapgbebbapmaaDoor
