/-
  PARTS of a claim, merged by segs.py: Ps6, Ps7.
-/
import Derived.Test.YtnbacdmlaedppaaGreatDoorQ54
import Derived.Test.YtnbacdmlaedppaaGreatDoorQ60
import Derived.Test.YtnbacdmlaedppaaGreatDoorQ18
import Derived.Test.YtnbacdmlaedppaaGreatDoorQ05
import Derived.BigQuiet
namespace Go.Proofs.YtnbacdmlaedppaaGreatDoor

/-! ### Ps6 -/
section
open Go.RowKit

theorem RefTk.low {w : World} {A : Option Addr} {L : List Tok} (h : RefTk w A L) {B : Nat} (hB : w.heap.size ≤ B) : TokB A B := by
  obtain ⟨b, o, rfl, h0, _⟩ := h.cells (i := 0) (by have := h.ended.pos; omega)
  intro ad e
  injection e with e
  subst e
  have := cell_lt h0
  exact Nat.lt_of_lt_of_le this hB

set_option maxRecDepth 100000 in
set_option maxHeartbeats 4000000 in
theorem ref_rule (A : Option Addr) (c n i : Nat) (L : List Tok) (w : World) (hT : RefTk w A L) (hi : i < L.length) (hn : n = L.length + 3) {x : Out Rul} (hx : ruleG (tkL L) L.length L.length i R0 = x) :
    Calls Tryz.prog 36 #[.slice A n c, .int .i64 i] w (RetRu w.heap.size w x) := by
  obtain ⟨wA, hwA⟩ : ∃ wA, wA = (w.alloc (rulO (.slice none 0 0) (.slice none 0 0))).alloc (rulO (.slice none 0 0) (.slice none 0 0)) := ⟨_, rfl⟩
  have hszA : wA.heap.size = w.heap.size + 1 + 1 := by rw [hwA]; simp
  have k0 : Below w.heap.size w wA := by rw [hwA]; exact ((Below.refl _ _).alloc (Nat.le_refl _) _).alloc (by simp) _
  have hA1 : wA.heap[w.heap.size]? = some (rulO (.slice none 0 0) (.slice none 0 0)) := by rw [hwA]; exact (Below.heap_alloc _ _ _ (by simp)).trans (heap_alloc_new w _)
  have hA2 : wA.heap[w.heap.size + 1]? = some (rulO (.slice none 0 0) (.slice none 0 0)) := by
    rw [hwA]
    have := heap_alloc_new (w.alloc (rulO (.slice none 0 0) (.slice none 0 0))) (rulO (.slice none 0 0) (.slice none 0 0))
    rwa [World.size_alloc] at this
  have HIt := hid (fun (W : World) (kW : Below w.heap.size w W) (hs : w.heap.size + 1 + 1 ≤ W.heap.size) (ua uc : Value) (r : Rul) (hr : OwnRl W (w.heap.size + 1 + 1) ua uc r) (ha : r.atoms.length ≤ 1000) (hc : r.conds.length ≤ 1000) (j : Nat) (hj : j < L.length) (o : Out Rul) (ho : itemS (tkL L) L.length j r = o) =>
    ref_item A c n j (w.heap.size + 1 + 1) L ua uc r W (hT.below kW) (hT.low (by omega)) hs hr ha hc hj hn ho)
  have HIs := hid (fun (W : World) (kW : Below w.heap.size w W) (j : Nat) (hj : j < L.length + 3) (z : Bool) (hz : isT (tkL L j) sComma = z) => ref_is A c n j L sComma W (hT.below kW) hj hn hz)
  have hL := hT.few
  have hE := hid hT.ended
  have HX := hid hx
  have HA1 := hid hA1
  have HA2 := hid hA2
  have HwA := hid hwA
  clear hT hx hn hA1 hA2
  go_enter Tryz.func36, Tryz.ntmps36
  go_wp2_with fail
  rw [← HwA.out]
  clear hwA
  go_loopw [1] (fun vi wr => ∃ (f j : Nat) (r : Rul) (Aa : Option Addr) (na ca : Nat) (Ac : Option Addr) (nc cc : Nat), vi = .int .i64 j ∧ j < L.length ∧ L.length ≤ f + j ∧ r.atoms.length + f ≤ L.length ∧ r.conds.length + f ≤ L.length ∧ Hid (ruleG (tkL L) L.length f j r = x) ∧ Hid (OwnRl wr (w.heap.size + 1 + 1) (.slice Aa na ca) (.slice Ac nc cc) r) ∧ Hid (wr.heap[w.heap.size]? = some (rulO (.slice none 0 0) (.slice none 0 0))) ∧ Hid (wr.heap[w.heap.size + 1]? = some (rulO (.slice Aa na ca) (.slice Ac nc cc))) ∧ w.heap.size + 1 + 1 ≤ wr.heap.size ∧ Below w.heap.size w wr) (fun vi _ => L.length - (intOf vi).toNat)
  case atStart => exact ⟨L.length, i, R0, none, 0, 0, none, 0, 0, rfl, hi, by omega, by show 0 + _ ≤ _; omega, by show 0 + _ ≤ _; omega, HX, hid OwnRl.nil, HA1, HA2, by omega, k0⟩
  case round =>
    obtain ⟨f, j, r, Aa, na, ca, Ac, nc, cc, rfl, hj, hf, ha, hc, HS, HO, H1, H2, hsw, hbel⟩ := hrel
    clear HX HA1 HA2
    have hsz := hbel.size
    obtain ⟨f', hf'⟩ : ∃ g, f = g + 1 := ⟨f - 1, by omega⟩
    have hS := HS.out
    rw [hf'] at hS
    unfold ruleG at hS
    obtain ⟨o, ho⟩ : ∃ o, itemS (tkL L) L.length j r = o := ⟨_, rfl⟩
    have HI := hid (HIt.out wr hbel hsw _ _ r HO.out (by omega) (by omega) j hj o ho)
    rw [ho] at hS
    have HS2 := hid hS
    have Hnx := hid (fun r' nx (h : o = .ok r' nx) => itemS_nx hE.out (ho.trans h))
    have c0 := box_cell H2.out 0
    have c1 := box_cell H2.out 1
    have Hf := hid hf'
    clear hS HS ho hf' HO
    go_wp2_with fail
    refine HI.out.mono ?_
    rintro e w2 ⟨hm, b2⟩
    have k2 := hbel.trans (b2.mono (by omega))
    have hs2 := k2.size
    have hsb := b2.size
    have g1 := (b2.block w.heap.size (by omega)).trans H1.out
    have g2 := (b2.block (w.heap.size + 1) (by omega)).trans H2.out
    have hl1 : w.heap.size < w2.heap.size := by omega
    have hl2 : w.heap.size + 1 < w2.heap.size := by omega
    have B2 := hid b2
    clear HI c0 c1 H1 H2 b2
    cases o with
    | bad eb =>
      obtain ⟨A1, n1, c1, A2, n2, c2, nx, rfl⟩ := hm
      have hx2 := HS2.out
      simp only at hx2
      subst hx2
      have hq : (w2.alloc (rulO (.slice A1 n1 c1) (.slice A2 n2 c2))).heap[w.heap.size]? = some (rulO (.slice none 0 0) (.slice none 0 0)) := (Below.heap_alloc _ _ _ hl1).trans g1
      have k3 : Below w.heap.size w (w2.alloc (rulO (.slice A1 n1 c1) (.slice A2 n2 c2))) := k2.alloc hs2 _
      clear g1 g2 HS2 Hnx HIt HIs B2
      go_wp2_with (refine wpList_store_res rfl rfl rfl rfl hq infoRlP rfl rfl ?_; intro w9 hz9 hb9)
      refine bodyPost_ret (by simp [results, Tryz.results36, go_sem, cell_res hz9]; rfl) rfl ?_
      exact ⟨⟨_, _, _, _, _, _, _, rfl⟩, k3.trans hb9⟩
    | ok r' nx =>
      obtain ⟨ua, uc, rfl, hr⟩ := hm
      obtain ⟨Aa', ca', Ac', cc', rfl, rfl⟩ := hr.shape
      obtain ⟨hn1, hn2, hn3, hn4⟩ := Hnx.out r' nx rfl
      have hS := HS2.out
      simp only at hS
      obtain ⟨z, hz⟩ : ∃ z, isT (tkL L nx) sComma = z := ⟨_, rfl⟩
      rw [hz] at hS
      have hzn : z = true → nx + 1 < L.length := fun h => hE.out.isT (hz.trans h)
      have HI2 := hid (fun W kW => HIs.out W kW nx (by omega) z hz)
      have HS3 := hid hS
      have hp : (w2.alloc (rulO (.slice Aa' r'.atoms.length ca') (.slice Ac' r'.conds.length cc'))).heap[w.heap.size + 1]? = some (rulO (.slice Aa na ca) (.slice Ac nc cc)) := (Below.heap_alloc _ _ _ hl2).trans g2
      have hq : (w2.alloc (rulO (.slice Aa' r'.atoms.length ca') (.slice Ac' r'.conds.length cc'))).heap[w.heap.size]? = some (rulO (.slice none 0 0) (.slice none 0 0)) := (Below.heap_alloc _ _ _ hl1).trans g1
      have k3 : Below w.heap.size w (w2.alloc (rulO (.slice Aa' r'.atoms.length ca') (.slice Ac' r'.conds.length cc'))) := k2.alloc hs2 _
      have HR3 := hid (hr.below (below_one w2 (rulO (.slice Aa' r'.atoms.length ca') (.slice Ac' r'.conds.length cc'))))
      have hs3 : (w2.alloc (rulO (.slice Aa' r'.atoms.length ca') (.slice Ac' r'.conds.length cc'))).heap.size = w2.heap.size + 1 := by simp
      clear g1 g2 HS2 Hnx hr B2 hS hz HIs
      go_upto_region 6 with (refine wpList_stored2 rfl rfl rfl rfl hp infoRlP rfl rfl ?_; intro w5 hz5 hg5)
      have HR5 := hid (HR3.out.box hp hg5)
      have k5 := k3.trans (grown_below' hg5 (by omega) (by simp; omega))
      have hs5 : w.heap.size + 1 + 1 ≤ w5.heap.size := by have := hg5.size; simp at this; omega
      have hq5 := (hg5.block w.heap.size (by simp; omega) (by simp)).trans hq
      have HI5 := hid (HI2.out w5 k5)
      clear hp hq HR3 hg5 HI2
      cases z with
      | true =>
        have hS := HS3.out
        rw [if_pos rfl] at hS
        have hz2 := hzn rfl
        have HS4 := hid hS
        clear hS HS3 hzn
        go_wp2_with fail
        refine HI5.out.mono ?_
        rintro e w6 ⟨rfl, b6⟩
        have k6 := k5.trans (b6.mono k5.size)
        have HR6 := hid (HR5.out.below b6)
        have G1 := hid ((b6.block w.heap.size (by omega)).trans hq5)
        have G2 := hid ((b6.block (w.heap.size + 1) (by omega)).trans hz5)
        have hs6 := b6.size
        clear hz5 hq5 HR5 b6 HI5
        go_wp2
        go_roundw
        case rel => exact ⟨f', nx + 1, r', _, _, _, _, _, _, by go_num, hz2, by have := Hf.out; omega, by have := Hf.out; omega, by have := Hf.out; omega, HS4, HR6, G1, G2, by omega, k6⟩
        case measure => simp [intOf]; omega
      | false =>
        have hx2 := HS3.out
        rw [if_neg (by decide)] at hx2
        subst hx2
        clear HS3 hzn
        go_wp2_with fail
        refine HI5.out.mono ?_
        rintro e w6 ⟨rfl, b6⟩
        have k6 := k5.trans (b6.mono k5.size)
        have HR6 := hid (HR5.out.below b6)
        have G1 := (b6.block w.heap.size (by omega)).trans hq5
        have G2 := (b6.block (w.heap.size + 1) (by omega)).trans hz5
        have hs6 := b6.size
        have c0 := box_cell G2 0
        have c1 := box_cell G2 1
        clear hz5 hq5 HR5 b6 HI5 G2
        go_wp2_with (refine wpList_stored2 rfl rfl rfl rfl G1 infoRlP rfl rfl ?_; intro w9 hz9 hg9)
        refine bodyPost_ret (by simp [results, Tryz.results36, go_sem, cell_res hz9]; rfl) rfl ?_
        exact ⟨⟨_, _, rfl, (HR6.out.box G1 hg9).mono (by omega)⟩, k6.trans (grown_below' hg9 (by omega) (by omega))⟩
end

/-! ### Ps7 -/
section
open Go.RowKit

abbrev hdC (H : Option Addr) (n c : Nat) (a : Int) (s : ByteArray) : Array Value := #[.slice H n c, .int .i64 a, .string s, .slice none 0 0, .slice none 0 0]
abbrev hdO (H : Option Addr) (n c : Nat) (a : Int) (s : ByteArray) : Obj := .cells (hdC H n c a s) 27
def RetAg (w : World) (H : Option Addr) (n c : Nat) (o : Out Qry) (e : Ending) (w' : World) : Prop := (match o with
  | .bad b => ∃ (a nx : Int) (s : ByteArray), e = .returned (.tuple #[.agg (hdC H n c a s), .int .i64 nx, .int .i64 b])
  | .ok q nx => e = .returned (.tuple #[.agg (hdC H n c q.agg ⟨q.aggVar.toArray⟩), .int .i64 nx, .int .i64 (-1)])) ∧ Below w.heap.size w w'
def agL : List Str := [sSum, sMin, sMax]
abbrev agO : Obj := .cells #[.string ⟨#[115, 117, 109]⟩, .string ⟨#[109, 105, 110]⟩, .string ⟨#[109, 97, 120]⟩] 9
theorem ag_cell (w : World) {j : Nat} (hj : j < 3) : (w.alloc agO).cell? ⟨w.heap.size, j, none⟩ = some (.string ⟨(agL.getD j []).toArray⟩) := by
  rw [cell_of_row _ w.heap.size j _ 9 (0, 0) (heap_alloc_new w _)]
  have e : j = 0 ∨ j = 1 ∨ j = 2 := by omega
  rcases e with rfl | rfl | rfl <;> rfl
theorem aggT_at {t : Tok} {k : Nat} (hk : k < 3) (h : isT t (agL.getD k []) = true) (hj : ∀ j, j < k → isT t (agL.getD j []) = false) : aggT t = some (2 + (k : Int)) := by
  have e : k = 0 ∨ k = 1 ∨ k = 2 := by omega
  unfold aggT
  rcases e with rfl | rfl | rfl
  · have h' : isT t sSum = true := h
    rw [if_pos h']; rfl
  · have h0 : isT t sSum = false := hj 0 (by omega)
    have h' : isT t sMin = true := h
    rw [if_neg (by rw [h0]; decide), if_pos h']; rfl
  · have h0 : isT t sSum = false := hj 0 (by omega)
    have h1 : isT t sMin = false := hj 1 (by omega)
    have h' : isT t sMax = true := h
    rw [if_neg (by rw [h0]; decide), if_neg (by rw [h1]; decide), if_pos h']; rfl
theorem aggT_none {t : Tok} (hj : ∀ j, j < 3 → isT t (agL.getD j []) = false) : aggT t = none := by
  have h0 : isT t sSum = false := hj 0 (by omega)
  have h1 : isT t sMin = false := hj 1 (by omega)
  have h2 : isT t sMax = false := hj 2 (by omega)
  unfold aggT
  rw [if_neg (by rw [h0]; decide), if_neg (by rw [h1]; decide), if_neg (by rw [h2]; decide)]

set_option maxRecDepth 100000 in
set_option maxHeartbeats 4000000 in
theorem ref_aggregate (A : Option Addr) (c n i : Nat) (L : List Tok) (H : Option Addr) (nh ch : Nat) (h : List Str) (w : World) (hT : RefTk w A L) (hi : i < L.length) (hn : n = L.length + 3) {x : Out Qry} (hx : aggG (tkL L) i ⟨h, 0, [], [], []⟩ = x) :
    Calls Tryz.prog 84 #[.slice A n c, .int .i64 i, .agg (hdC H nh ch 0 ⟨#[]⟩)] w (RetAg w H nh ch x) := by
  obtain ⟨wA, hwA⟩ : ∃ wA, wA = (w.alloc (hdO H nh ch 0 ⟨#[]⟩)).alloc (hdO none 0 0 0 ⟨#[]⟩) := ⟨_, rfl⟩
  have hszA : wA.heap.size = w.heap.size + 1 + 1 := by rw [hwA]; simp
  have k0 : Below w.heap.size w wA := by rw [hwA]; exact ((Below.refl _ _).alloc (Nat.le_refl _) _).alloc (by simp) _
  have hA1 : wA.heap[w.heap.size]? = some (hdO H nh ch 0 ⟨#[]⟩) := by rw [hwA]; exact (Below.heap_alloc _ _ _ (by simp)).trans (heap_alloc_new w _)
  have hA2 : wA.heap[w.heap.size + 1]? = some (hdO none 0 0 0 ⟨#[]⟩) := by
    rw [hwA]
    have := heap_alloc_new (w.alloc (hdO H nh ch 0 ⟨#[]⟩)) (hdO none 0 0 0 ⟨#[]⟩)
    rwa [World.size_alloc] at this
  have HIs := hid (fun (W : World) (kW : Below w.heap.size w W) (s : Str) (j : Nat) (hj : j < L.length + 3) (z : Bool) (hz : isT (tkL L j) s = z) => ref_is A c n j L s W (hT.below kW) hj hn hz)
  have HTk := hid (fun (W : World) (kW : Below w.heap.size w W) (j : Nat) (hj : j < L.length + 3) => (hT.below kW).cells hj)
  have hE := hid hT.ended
  have hL := hT.few
  have hln : L.length + 3 ≤ n := by omega
  have HX := hid hx
  have HA1 := hid hA1
  have HA2 := hid hA2
  have HwA := hid hwA
  obtain ⟨y, hy⟩ : ∃ y, isT (tkL L i) sCount = y := ⟨_, rfl⟩
  have hI0 := hid (HIs.out wA k0 sCount i (by omega) y hy)
  have HY := hid hy
  clear hT hx hn hA1 hA2 hy
  unfold aggG at HX
  cases y with
  | true =>
    have hx := HX.out
    rw [if_pos HY.out] at hx
    subst hx
    go_enter Tryz.func84, Tryz.ntmps84
    go_wp2_with fail
    rw [← HwA.out]
    clear hwA
    refine hI0.out.mono ?_
    rintro e w1 ⟨rfl, b1⟩
    have k1 := k0.trans (b1.mono k0.size)
    have hp := (b1.block w.heap.size (by omega)).trans HA1.out
    have hq := (b1.block (w.heap.size + 1) (by omega)).trans HA2.out
    have hs1 := b1.size
    have c0 := box_cell hp 0
    have c1 := box_cell hp 1
    have c2 := box_cell hp 2
    have c3 := box_cell hp 3
    have c4 := box_cell hp 4
    have f1 := box_free hp 1
    have hg := ren_set w1 w.heap.size 1 (.int .i64 1)
    have hq2 := (hg.block (w.heap.size + 1) (by omega) (by simp)).trans hq
    have k2 := k1.trans (grown_below' hg (Nat.le_refl _) (by omega))
    clear b1 hI0 hp hq hg
    go_wp2_with (refine wpList_store_res rfl rfl rfl rfl hq2 infoQyP rfl rfl ?_; intro w9 hz9 hb9)
    refine bodyPost_ret (by simp [results, Tryz.results84, go_sem, cell_res hz9]; rfl) rfl ?_
    exact ⟨rfl, k2.trans (hb9.mono (by omega))⟩
  | false =>
    have HX2 : Hid ((match aggT (tkL L i) with | none => Out.bad i | some a => if (tkL L (i + 1)).k ≠ 1 then Out.bad (i + 1) else Out.ok (⟨h, a, (tkL L (i + 1)).t, [], []⟩ : Qry) (i + 2)) = x) := hid (by have := HX.out; rw [if_neg (by rw [HY.out]; decide)] at this; exact this)
    clear HX HY
    go_enter Tryz.func84, Tryz.ntmps84
    go_wp2_with fail
    rw [← HwA.out]
    clear hwA HwA
    refine hI0.out.mono ?_
    rintro e w1 ⟨rfl, b1⟩
    have kB : Below wA.heap.size wA (w1.alloc agO) := b1.alloc b1.size _
    have KB := hid kB
    clear b1 hI0 kB
    go_wp2
    go_loopw [10] (fun vk wr => ∃ k : Nat, k ≤ 3 ∧ vk = .int .i64 k ∧ Below (w1.alloc agO).heap.size (w1.alloc agO) wr ∧ Hid (∀ j, j < k → isT (tkL L i) (agL.getD j []) = false)) (fun v _ => 3 - (intOf v).toNat)
    case atStart => exact ⟨0, by omega, rfl, Below.refl _ _, hid (fun j hj => by omega)⟩
    case round =>
      obtain ⟨k, hk, rfl, hbel, HF⟩ := hrel
      have kA : Below wA.heap.size wA wr := KB.out.trans (hbel.mono KB.out.size)
      have kW : Below w.heap.size w wr := k0.trans (kA.mono k0.size)
      have hsA := kA.size
      by_cases hlt : k < 3
      · have cc := cell_keep hbel (ag_cell w1 hlt)
        obtain ⟨z, hz⟩ : ∃ z, isT (tkL L i) (agL.getD k []) = z := ⟨_, rfl⟩
        have H1 := hid (HIs.out wr kW (agL.getD k []) i (by omega) z hz)
        cases z with
        | true =>
          have hi1 : i + 1 < L.length := hE.out.isT hz
          have hx := HX2.out
          rw [aggT_at hlt hz HF.out] at hx
          simp only at hx
          have HX3 := hid hx
          generalize agL.getD k [] = s at *
          clear hz HF hx HX2
          go_wp2_with fail
          refine H1.out.mono ?_
          rintro e w3 ⟨rfl, b3⟩
          have k3 := kW.trans (b3.mono kW.size)
          have kA3 := kA.trans (b3.mono kA.size)
          have hs3 := kA3.size
          obtain ⟨b, o, rfl, t0, t1⟩ := HTk.out w3 k3 (i + 1) (by omega)
          have hp := (kA3.block w.heap.size (by omega)).trans HA1.out
          have hq := (kA3.block (w.heap.size + 1) (by omega)).trans HA2.out
          have c0 := box_cell hp 0
          have c1 := box_cell hp 1
          have c2 := box_cell hp 2
          have c3 := box_cell hp 3
          have c4 := box_cell hp 4
          have f1 := box_free hp 1
          have f2 := box_free hp 2
          obtain ⟨i1, hi1'⟩ : ∃ q, q = i + 1 := ⟨_, rfl⟩
          rw [← hi1'] at t0 t1 HX3
          have ei : (i : Int) + 1 = (i1 : Int) := by omega
          have Hi1 := hid hi1'
          have HP := hid hp
          have hil : i1 < n := by omega
          clear hi1' b3 H1 cc hp hi1
          by_cases hk1 : (tkL L i1).k = 1
          · have hx := HX3.out
            rw [if_neg (by rw [hk1]; decide)] at hx
            rw [hk1] at t0
            clear HX3
            generalize tkL L i1 = t at *
            subst hx
            have r1 : IntKind.i64.wrap ((i : Int) + 1) = (i1 : Int) := by rw [IntKind.wrap_i64]; omega
            have r2 : IntKind.i64.wrap (i1 : Int) = (i1 : Int) := by rw [IntKind.wrap_i64]; omega
            have r3 : IntKind.i64.wrap (2 + (k : Int)) = 2 + (k : Int) := by rw [IntKind.wrap_i64]; omega
            have hil2 : (i1 : Int) < (n : Int) := by omega
            clear hk1
            go_wp2
            go_big_region
            have hg1 := ren_set w3 w.heap.size 1 (.int .i64 (2 + (k : Int)))
            have hg2 := ren_set (w3.setCell ⟨w.heap.size, 1, none⟩ (.int .i64 (2 + (k : Int)))) w.heap.size 2 (.string ⟨t.t.toArray⟩)
            have hq3 := (hg1.block (w.heap.size + 1) (by omega) (by simp)).trans hq
            have hq4 := (hg2.block (w.heap.size + 1) (by have := hg1.size; omega) (by simp)).trans hq3
            have k4 := k3.trans (grown_below' hg1 (Nat.le_refl _) (by omega))
            have k5 := (k4.trans (grown_below' hg2 (Nat.le_refl _) (by have := hg1.size; omega))).drew
            have hp1 := hg1.block
            have hpw : w3.heap[w.heap.size]? = some (hdO H nh ch 0 ⟨#[]⟩) := HP.out
            have hpA : ((w3.setCell ⟨w.heap.size, 1, none⟩ (.int .i64 (2 + (k : Int)))).setCell ⟨w.heap.size, 2, none⟩ (.string ⟨t.t.toArray⟩)).drew.heap[w.heap.size]? = some (hdO H nh ch (2 + (k : Int)) ⟨t.t.toArray⟩) := by
              exact box_set (box_set hpw 1 _) 2 _
            have hqA : ((w3.setCell ⟨w.heap.size, 1, none⟩ (.int .i64 (2 + (k : Int)))).setCell ⟨w.heap.size, 2, none⟩ (.string ⟨t.t.toArray⟩)).drew.heap[w.heap.size + 1]? = some (hdO none 0 0 0 ⟨#[]⟩) := hq4
            clear hq3 hq4 hg1 hg2 k4 hp1 c0 c1 c2 c3 c4 f1 f2 hq hpw HP
            generalize ((w3.setCell ⟨w.heap.size, 1, none⟩ (.int .i64 (2 + (k : Int)))).setCell ⟨w.heap.size, 2, none⟩ (.string ⟨t.t.toArray⟩)).drew = w5 at *
            have c0 := box_cell hpA 0
            have c1 := box_cell hpA 1
            have c2 := box_cell hpA 2
            have c3 := box_cell hpA 3
            have c4 := box_cell hpA 4
            have hs5 := k5.size
            have r4 : IntKind.i64.wrap ((i : Int) + 2) = (i : Int) + 2 := by rw [IntKind.wrap_i64]; omega
            clear hpA
            go_wp2_with (refine wpList_store_res rfl rfl rfl rfl hqA infoQyP rfl rfl ?_; intro w9 hz9 hb9)
            refine bodyPost_ret (by simp [results, Tryz.results84, go_sem, cell_res hz9]; rfl) rfl ?_
            have hiN := Hi1.out
            subst hiN
            exact And.intro (by rfl) (k5.trans (hb9.mono (by omega)))
          · have hx := HX3.out
            rw [if_pos hk1] at hx
            subst hx
            have dk : ((tkL L i1).k == 1) = false := by simpa using hk1
            generalize tkL L i1 = t at *
            have Hi2 := hid Hi1.out
            clear hk1 HX3
            go_wp2_with (refine wpList_store_res rfl rfl rfl rfl hq infoQyP rfl rfl ?_; intro w9 hz9 hb9)
            refine bodyPost_ret (by simp [results, Tryz.results84, go_sem, cell_res hz9]; rfl) rfl ?_
            exact ⟨⟨_, _, _, by rw [Hi1.out]⟩, k3.trans (hb9.mono (by omega))⟩
        | false =>
          have HF2 : Hid (∀ j, j < k + 1 → isT (tkL L i) (agL.getD j []) = false) := hid (fun j hj => by
            by_cases e : j = k
            · subst e; exact hz
            · exact HF.out j (by omega))
          generalize agL.getD k [] = s at *
          clear hz HF
          go_wp2_with fail
          refine H1.out.mono ?_
          rintro e w3 ⟨rfl, b3⟩
          have hbel2 := hbel.trans (b3.mono hbel.size)
          clear b3
          go_wp2
          go_roundw
          case rel => exact ⟨k + 1, by omega, by go_num, hbel2, HF2⟩
          case measure => simp [intOf]; omega
      · have hx := HX2.out
        rw [aggT_none (fun j hj => HF.out j (by omega))] at hx
        simp only at hx
        subst hx
        have hp := (kA.block w.heap.size (by omega)).trans HA1.out
        have hq := (kA.block (w.heap.size + 1) (by omega)).trans HA2.out
        have c0 := box_cell hp 0
        have c1 := box_cell hp 1
        have c2 := box_cell hp 2
        have c3 := box_cell hp 3
        have c4 := box_cell hp 4
        clear hp HX2
        go_wp2_with (refine wpList_store_res rfl rfl rfl rfl hq infoQyP rfl rfl ?_; intro w9 hz9 hb9)
        refine bodyPost_ret (by simp [results, Tryz.results84, go_sem, cell_res hz9]; rfl) rfl ?_
        exact ⟨⟨_, _, _, rfl⟩, kW.trans (hb9.mono (by omega))⟩
end
end Go.Proofs.YtnbacdmlaedppaaGreatDoor
