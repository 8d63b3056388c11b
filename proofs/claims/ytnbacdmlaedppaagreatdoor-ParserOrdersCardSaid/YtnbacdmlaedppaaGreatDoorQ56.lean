/-
  PARTS of a claim, merged by segs.py: PuO.
-/
import Derived.Test.YtnbacdmlaedppaaGreatDoorQ37
import Derived.Test.YtnbacdmlaedppaaGreatDoorQ51
import Derived.Test.YtnbacdmlaedppaaGreatDoorQ44
import Derived.Deep.RegionHeld3
namespace Go.Proofs.YtnbacdmlaedppaaGreatDoor

/-! ### PuO -/
section
open Go.RowKit

theorem kys_one {w : World} {g : Nat} {v : Str} {d : Bool} (h : w.heap[g]? = some (.cells #[.string ⟨v.toArray⟩, .bool d] 37)) : KysAt w (some ⟨g, 0, none⟩) [⟨v, d⟩] := fun _ => ⟨g, 0, rfl, fun i hi => by
  have : i = 0 := by simpa using hi
  subst this
  exact ⟨box_cell h 0, box_cell h 1⟩⟩
theorem orders_text {s V : ByteArray} {v : Str} (hV : ⟨v.toArray⟩ = V) : (s ++ (⟨#[32, 111, 114, 100, 101, 114, 32]⟩ : ByteArray) ++ V).data.toList = s.data.toList ++ orderS [⟨v, false⟩] ∧ (s ++ (⟨#[32, 111, 114, 100, 101, 114, 32]⟩ : ByteArray) ++ V ++ (⟨#[32, 100, 101, 115, 99]⟩ : ByteArray)).data.toList = s.data.toList ++ orderS [⟨v, true⟩] := by
  subst hV
  unfold orderS keyS
  rw [if_neg (by simp), if_neg (by simp)]
  constructor <;> simp [ByteArray.data_append, joinS]

set_option maxRecDepth 100000 in
set_option maxHeartbeats 4000000 in
theorem law_orders20 (s : ByteArray) (desc : Bool) (w : World) (hE : EnvL w) : Calls Tryz.prog 4 #[.string s, .bool desc] w fun e w' => e = .returned (.bool true) ∧ Below w.heap.size w w' := by
  have HAw := fun W (k : Below w.heap.size w W) => hid (awake20 W (hE.below k))
  by_cases hs : 800 < s.size
  · have hs1 : (800 : Int) < (s.size : Int) := by omega
    clear hE hs
    go_enter Tryz.func4, Tryz.ntmps4
    go_wp2_with fail
    refine (HAw _ (Below.refl _ _)).out.mono ?_
    rintro e w1 ⟨rfl, k1⟩
    clear HAw
    go_wp2
    go_ret
    exact ⟨rfl, k1⟩
  have hs1 : ¬ (800 : Int) < (s.size : Int) := by omega
  obtain ⟨y, hy⟩ : ∃ y, parseP (scanL s.data.toList) = y := ⟨_, rfl⟩
  obtain ⟨⟨hd, ag, av, rs, os⟩, at_, code⟩ := y
  have HP := hid (prs_parse s w hE (by omega) rfl hy)
  have HE := hid hE
  by_cases hc : code ≠ 0
  · have hb0 : (code != 0) = true := by simpa using hc
    clear hE hy hc
    go_enter Tryz.func4, Tryz.ntmps4
    go_wp2_with fail
    refine HP.out.mono ?_
    rintro e w1 ⟨A1, R1, O1, a1, b1, d1, rfl, i1, f1, k1⟩
    simp only
    have x1 := below_one w1 (.cells #[.slice A1 hd.length a1, .int .i64 ag, .string ⟨av.toArray⟩, .slice R1 rs.length b1, .slice O1 os.length d1] 27)
    have h1 := heap_alloc_new w1 (.cells #[.slice A1 hd.length a1, .int .i64 ag, .string ⟨av.toArray⟩, .slice R1 rs.length b1, .slice O1 os.length d1] 27)
    obtain ⟨w2, hw2⟩ : ∃ w2, w1.alloc (.cells #[.slice A1 hd.length a1, .int .i64 ag, .string ⟨av.toArray⟩, .slice R1 rs.length b1, .slice O1 os.length d1] 27) = w2 := ⟨_, rfl⟩
    rw [hw2] at x1 h1
    have HW2 := hid hw2
    have K2 := hid (k1.trans (x1.mono k1.size))
    have HA := hid (HAw w2 K2.out).out
    have c10 := box_cell h1 0
    have c11 := box_cell h1 1
    have c12 := box_cell h1 2
    have c13 := box_cell h1 3
    have c14 := box_cell h1 4
    clear hw2 HP i1 f1 k1 x1 h1 HAw
    go_wp2_with (first | rw [HW2.out] | fail)
    refine HA.out.mono ?_
    rintro e w3 ⟨rfl, k3⟩
    have K3 := hid (K2.out.trans (k3.mono K2.out.size))
    clear HA k3 K2
    go_wp2
    go_ret
    exact ⟨rfl, K3.out⟩
  obtain rfl : code = 0 := by omega
  by_cases ho : os ≠ []
  · have ho1 : ¬ os = [] := ho
    have ho3 : (0 : Int) < (os.length : Int) := by have := List.length_pos_iff.2 ho; omega
    have ho4 : 0 < os.length := by omega
    clear hE hy hc ho
    go_enter Tryz.func4, Tryz.ntmps4
    go_wp2_with fail
    refine HP.out.mono ?_
    rintro e w1 ⟨A1, R1, O1, a1, b1, d1, rfl, i1, f1, k1⟩
    simp only
    have x1 := below_one w1 (.cells #[.slice A1 hd.length a1, .int .i64 ag, .string ⟨av.toArray⟩, .slice R1 rs.length b1, .slice O1 os.length d1] 27)
    have h1 := heap_alloc_new w1 (.cells #[.slice A1 hd.length a1, .int .i64 ag, .string ⟨av.toArray⟩, .slice R1 rs.length b1, .slice O1 os.length d1] 27)
    obtain ⟨w2, hw2⟩ : ∃ w2, w1.alloc (.cells #[.slice A1 hd.length a1, .int .i64 ag, .string ⟨av.toArray⟩, .slice R1 rs.length b1, .slice O1 os.length d1] 27) = w2 := ⟨_, rfl⟩
    rw [hw2] at x1 h1
    have HW2 := hid hw2
    have K2 := hid (k1.trans (x1.mono k1.size))
    have HA := hid (HAw w2 K2.out).out
    have c10 := box_cell h1 0
    have c11 := box_cell h1 1
    have c12 := box_cell h1 2
    have c13 := box_cell h1 3
    have c14 := box_cell h1 4
    clear hw2 HP i1 f1 k1 x1 h1 HAw
    go_wp2_with (first | rw [HW2.out] | fail)
    refine HA.out.mono ?_
    rintro e w3 ⟨rfl, k3⟩
    have K3 := hid (K2.out.trans (k3.mono K2.out.size))
    clear HA k3 K2
    go_wp2
    go_ret
    exact ⟨rfl, K3.out⟩
  obtain rfl : os = [] := by simpa using ho
  by_cases hh : hd = []
  · subst hh
    have ho2 : ¬ (0 : Int) < ((([] : List Ky).length : Nat) : Int) := by simp
    have hh1 : ((([] : List Str).length : Int) == 0) = true := by simp
    clear hE hy hc ho
    go_enter Tryz.func4, Tryz.ntmps4
    go_wp2_with fail
    refine HP.out.mono ?_
    rintro e w1 ⟨A1, R1, O1, a1, b1, d1, rfl, i1, f1, k1⟩
    simp only 
    have x1 := below_one w1 (.cells #[.slice A1 0 a1, .int .i64 ag, .string ⟨av.toArray⟩, .slice R1 rs.length b1, .slice O1 0 d1] 27)
    have h1 := heap_alloc_new w1 (.cells #[.slice A1 0 a1, .int .i64 ag, .string ⟨av.toArray⟩, .slice R1 rs.length b1, .slice O1 0 d1] 27)
    obtain ⟨w2, hw2⟩ : ∃ w2, w1.alloc (.cells #[.slice A1 0 a1, .int .i64 ag, .string ⟨av.toArray⟩, .slice R1 rs.length b1, .slice O1 0 d1] 27) = w2 := ⟨_, rfl⟩
    rw [hw2] at x1 h1
    have HW2 := hid hw2
    have K2 := hid (k1.trans (x1.mono k1.size))
    have HA := hid (HAw w2 K2.out).out
    have c10 := box_cell h1 0
    have c11 := box_cell h1 1
    have c12 := box_cell h1 2
    have c13 := box_cell h1 3
    have c14 := box_cell h1 4
    clear hw2 HP i1 f1 k1 x1 h1 HAw
    go_wp2_with (first | rw [HW2.out] | fail)
    refine HA.out.mono ?_
    rintro e w3 ⟨rfl, k3⟩
    have K3 := hid (K2.out.trans (k3.mono K2.out.size))
    clear HA k3 K2
    go_wp2
    go_ret
    exact ⟨rfl, K3.out⟩
  obtain ⟨n, hn⟩ : ∃ n, hd.length = n + 1 := ⟨hd.length - 1, by have := List.length_pos_iff.2 hh; omega⟩
  have hnl : n < hd.length := by omega
  obtain ⟨v, hvn⟩ : ∃ v, hd[n] = v := ⟨_, rfl⟩
  have hmem : v ∈ hd := by rw [← hvn]; exact List.getElem_mem hnl
  obtain ⟨V, hV⟩ : ∃ V : ByteArray, ⟨v.toArray⟩ = V := ⟨_, rfl⟩
  have HVn := hid hvn
  have HL := hid hn
  have hls : s.data.toList.length = s.size := by simp
  clear hc ho hh hn hvn
  cases desc
  · obtain ⟨hTl, hTp⟩ : (s ++ (⟨#[32, 111, 114, 100, 101, 114, 32]⟩ : ByteArray) ++ V).size ≤ 65536 ∧ parseP (scanL (s ++ (⟨#[32, 111, 114, 100, 101, 114, 32]⟩ : ByteArray) ++ V).data.toList) = (⟨hd, ag, av, rs, [⟨v, false⟩]⟩, 0, 0) := by
      have h1 := orders_plain (k := ⟨v, false⟩) hy rfl hmem (by rw [hls]; omega)
      have h2 := (orders_text (s := s) hV).1
      rw [← h2] at h1
      refine ⟨?_, h1.2⟩
      have h3 := h1.1
      rw [show (s ++ (⟨#[32, 111, 114, 100, 101, 114, 32]⟩ : ByteArray) ++ V).data.toList.length = (s ++ (⟨#[32, 111, 114, 100, 101, 114, 32]⟩ : ByteArray) ++ V).size by simp only [Array.length_toList]; rfl] at h3
      exact h3
    have HTL := hid (And.intro hTl hTp)
    have hVl : V.size ≤ 65536 := by
      have h3 := hTl
      simp only [ByteArray.size_append] at h3
      omega
    have HV := hid hV
    clear hE hy hmem hV hTl hTp hls
    go_enter Tryz.func4, Tryz.ntmps4
    go_wp2_with fail
    refine HP.out.mono ?_
    rintro e w1 ⟨A1, R1, O1, a1, b1, d1, rfl, i1, f1, k1⟩
    simp only at i1
    obtain ⟨b, o, rfl, hcs⟩ := i1.head (show 0 < hd.length by rw [HL.out]; omega)
    have hv0 := hcs n (show n < hd.length by rw [HL.out]; omega)
    simp only [HVn.out, HV.out] at hv0
    simp only [qryV, HL.out, List.length_nil]
    have x1 := below_one w1 (.cells #[.slice (some ⟨b, o, none⟩) (n + 1) a1, .int .i64 ag, .string ⟨av.toArray⟩, .slice R1 rs.length b1, .slice O1 0 d1] 27)
    have h1 := heap_alloc_new w1 (.cells #[.slice (some ⟨b, o, none⟩) (n + 1) a1, .int .i64 ag, .string ⟨av.toArray⟩, .slice R1 rs.length b1, .slice O1 0 d1] 27)
    have l1 : w1.heap.size < (w1.alloc (.cells #[.slice (some ⟨b, o, none⟩) (n + 1) a1, .int .i64 ag, .string ⟨av.toArray⟩, .slice R1 rs.length b1, .slice O1 0 d1] 27)).heap.size := by simp
    obtain ⟨w2, hw2⟩ : ∃ w2, w1.alloc (.cells #[.slice (some ⟨b, o, none⟩) (n + 1) a1, .int .i64 ag, .string ⟨av.toArray⟩, .slice R1 rs.length b1, .slice O1 0 d1] 27) = w2 := ⟨_, rfl⟩
    rw [hw2] at x1 h1 l1
    have HW2 := hid hw2
    have kk := k1.trans (x1.mono k1.size)
    have K2 := hid kk
    have I1 := hid i1
    have G2 := hid h1
    have B2 := hid x1
    have c10 := box_cell h1 0
    have c11 := box_cell h1 1
    have c12 := box_cell h1 2
    have c13 := box_cell h1 3
    have c14 := box_cell h1 4
    have hv2 := cell_keep x1 hv0
    have HV0 := hid hv0
    have HP2 := hid (prs_parse_far (s ++ (⟨#[32, 111, 114, 100, 101, 114, 32]⟩ : ByteArray) ++ V) w2 (HE.out.below kk) HTL.out.1 rfl HTL.out.2)
    have hq0 : (((n : Int) + 1) == 0) = false := by simp; omega
    have hn9 : n < 9223372036854775807 := by have h1 := I1.out.mh; have h2 := HL.out; simp only at h1; omega
    have HKS := hid k1.size
    clear hw2 HP i1 k1 x1 h1 kk hcs hv0 f1
    go_wp2_with (first | rw [HW2.out] | fail)
    refine HP2.out.mono ?_
    rintro e w3 ⟨A2, R2, O2, a2, b2, d2, rfl, i3, i3s, f3, k3⟩
    simp only at i3s
    simp only [qryV, HL.out, List.length_singleton]
    have x3 := below_one w3 (.cells #[.slice A2 (n + 1) a2, .int .i64 ag, .string ⟨av.toArray⟩, .slice R2 rs.length b2, .slice O2 1 d2] 27)
    have h3 := heap_alloc_new w3 (.cells #[.slice A2 (n + 1) a2, .int .i64 ag, .string ⟨av.toArray⟩, .slice R2 rs.length b2, .slice O2 1 d2] 27)
    have l3 : w3.heap.size < (w3.alloc (.cells #[.slice A2 (n + 1) a2, .int .i64 ag, .string ⟨av.toArray⟩, .slice R2 rs.length b2, .slice O2 1 d2] 27)).heap.size := by simp
    obtain ⟨w4, hw4⟩ : ∃ w4, w3.alloc (.cells #[.slice A2 (n + 1) a2, .int .i64 ag, .string ⟨av.toArray⟩, .slice R2 rs.length b2, .slice O2 1 d2] 27) = w4 := ⟨_, rfl⟩
    rw [hw4] at x3 h3 l3
    have l13 : w1.heap.size < w3.heap.size := Nat.lt_of_lt_of_le l1 k3.size
    have l14 : w1.heap.size < w4.heap.size := by omega
    have kk := k3.trans (x3.mono k3.size)
    have B4 := hid (B2.out.trans (kk.mono B2.out.size))
    have K4 := hid (K2.out.trans (kk.mono K2.out.size))
    have g4 := (kk.block w1.heap.size l1).trans G2.out
    have x5 := below_one w4 (.cells #[.string V, .bool false] 37)
    have h5 := heap_alloc_new w4 (.cells #[.string V, .bool false] 37)
    have l5 : w4.heap.size < (w4.alloc (.cells #[.string V, .bool false] 37)).heap.size := by simp
    obtain ⟨w5, hw5⟩ : ∃ w5, w4.alloc (.cells #[.string V, .bool false] 37) = w5 := ⟨_, rfl⟩
    rw [hw5] at x5 h5 l5
    have g5 := (x5.block w1.heap.size l14).trans g4
    have s6 := heap_setCell_same w5 w1.heap.size 4 _ _ (.slice (some ⟨w4.heap.size, 0, none⟩) 1 1) g5
    have o6 := Below.heap_setCell w5 ⟨w1.heap.size, 4, none⟩ (.slice (some ⟨w4.heap.size, 0, none⟩) 1 1)
    have z6 : w5.heap.size = (w5.setCell ⟨w1.heap.size, 4, none⟩ (.slice (some ⟨w4.heap.size, 0, none⟩) 1 1)).heap.size := by simp [World.setCell]
    have B6 := hid ((B4.out.trans (x5.mono B4.out.size)).setCell (p := ⟨w1.heap.size, 4, none⟩) (Nat.le_refl _) (.slice (some ⟨w4.heap.size, 0, none⟩) 1 1))
    have K6 := hid ((K4.out.trans (x5.mono K4.out.size)).setCell (p := ⟨w1.heap.size, 4, none⟩) HKS.out (.slice (some ⟨w4.heap.size, 0, none⟩) 1 1))
    obtain ⟨w6, hw6⟩ : ∃ w6, w5.setCell ⟨w1.heap.size, 4, none⟩ (.slice (some ⟨w4.heap.size, 0, none⟩) 1 1) = w6 := ⟨_, rfl⟩
    rw [hw6] at s6 o6 z6 B6 K6
    have g6 : w6.heap[w1.heap.size]? = some (.cells #[.slice (some ⟨b, o, none⟩) (n + 1) a1, .int .i64 ag, .string ⟨av.toArray⟩, .slice R1 rs.length b1, .slice (some ⟨w4.heap.size, 0, none⟩) 1 1] 27) := s6
    have p6 := (o6 w3.heap.size (by show ¬ w3.heap.size = w1.heap.size; omega)).trans ((x5.block w3.heap.size l3).trans h3)
    have y6 := (o6 w4.heap.size (by show ¬ w4.heap.size = w1.heap.size; omega)).trans h5
    have HA := hid (HAw w6 K6.out).out
    have I6 := hid (show QryIn w6 ⟨hd, ag, av, rs, [⟨v, false⟩]⟩ (some ⟨b, o, none⟩) R1 (some ⟨w4.heap.size, 0, none⟩) a1 b1 1 from
      ⟨I1.out.head.below B6.out, I1.out.rules.below B6.out, kys_one (by rw [HV.out]; exact y6), I1.out.lh, I1.out.lr, Nat.le_refl _, I1.out.mh, I1.out.mr, (by show 1 ≤ 9223372036854775807; decide)⟩)
    have J6 := hid (own_qry (i3.chg (((chg_below (S := [w1.heap.size]) x3).trans (chg_below x5)).set (b := w1.heap.size) (.inl (by simp)) 4 (.slice (some ⟨w4.heap.size, 0, none⟩) 1 1)) (fun s hs => by simp at hs; omega)) i3s)
    rw [hw6] at J6
    have HW4 := hid hw4
    have HW5 := hid hw5
    have HW6 := hid hw6
    have G6 := hid (And.intro g6 p6)
    have L6 := hid (And.intro (show w1.heap.size < w6.heap.size by omega) (show w3.heap.size < w6.heap.size by omega))
    have c40 := box_cell g4 0
    have c41 := box_cell g4 1
    have c42 := box_cell g4 2
    have c43 := box_cell g4 3
    have c44 := box_cell g4 4
    have c54 := box_cell g5 4
    have f54 := box_free g5 4
    have hv4 := cell_keep B4.out HV0.out
    clear hw4 hw5 hw6 s6 o6 z6 g6 p6 y6 g4 g5 h3 h5 x3 x5 i3 i3s f3 k3 kk c10 c11 c12 c13 c14 hv2 HP2 K2 G2 B2 HAw
    go_wp2_with (first | rw [HW4.out] | rw [HW5.out] | rw [HW6.out] | fail)
    refine HA.out.mono ?_
    rintro e w7 ⟨rfl, k7⟩
    have K7 := hid (K6.out.trans (k7.mono K6.out.size))
    have HEq := hid (ast_equal ⟨hd, ag, av, rs, [⟨v, false⟩]⟩ ⟨hd, ag, av, rs, [⟨v, false⟩]⟩ A2 R2 O2 (some ⟨b, o, none⟩) R1 (some ⟨w4.heap.size, 0, none⟩) a2 b2 d2 a1 b1 1 w7 (J6.out.below k7) (I6.out.below k7) (b := true) ⟨fun _ => rfl, fun _ => rfl⟩)
    have g1 := (k7.block w1.heap.size L6.out.1).trans G6.out.1
    have g2 := (k7.block w3.heap.size L6.out.2).trans G6.out.2
    simp only [qryV, HL.out, List.length_singleton] at HEq
    have c70 := box_cell g1 0
    have c71 := box_cell g1 1
    have c72 := box_cell g1 2
    have c73 := box_cell g1 3
    have c74 := box_cell g1 4
    have c80 := box_cell g2 0
    have c81 := box_cell g2 1
    have c82 := box_cell g2 2
    have c83 := box_cell g2 3
    have c84 := box_cell g2 4
    clear HA k7 g1 g2 G6 I6 J6 K6 c40 c41 c42 c43 c44 c54 f54 hv4
    go_wp2_with fail
    refine HEq.out.mono ?_
    rintro e w8 ⟨rfl, k8⟩
    have K8 := hid (K7.out.trans (k8.mono K7.out.size))
    clear HEq k8 K7
    go_wp2
    go_ret
    exact ⟨rfl, K8.out⟩
  · obtain ⟨hTl, hTp⟩ : (s ++ (⟨#[32, 111, 114, 100, 101, 114, 32]⟩ : ByteArray) ++ V ++ (⟨#[32, 100, 101, 115, 99]⟩ : ByteArray)).size ≤ 65536 ∧ parseP (scanL (s ++ (⟨#[32, 111, 114, 100, 101, 114, 32]⟩ : ByteArray) ++ V ++ (⟨#[32, 100, 101, 115, 99]⟩ : ByteArray)).data.toList) = (⟨hd, ag, av, rs, [⟨v, true⟩]⟩, 0, 0) := by
      have h1 := orders_plain (k := ⟨v, true⟩) hy rfl hmem (by rw [hls]; omega)
      have h2 := (orders_text (s := s) hV).2
      rw [← h2] at h1
      refine ⟨?_, h1.2⟩
      have h3 := h1.1
      rw [show (s ++ (⟨#[32, 111, 114, 100, 101, 114, 32]⟩ : ByteArray) ++ V ++ (⟨#[32, 100, 101, 115, 99]⟩ : ByteArray)).data.toList.length = (s ++ (⟨#[32, 111, 114, 100, 101, 114, 32]⟩ : ByteArray) ++ V ++ (⟨#[32, 100, 101, 115, 99]⟩ : ByteArray)).size by simp only [Array.length_toList]; rfl] at h3
      exact h3
    have HTL := hid (And.intro hTl hTp)
    have hVl : V.size ≤ 65536 := by
      have h3 := hTl
      simp only [ByteArray.size_append] at h3
      omega
    have HV := hid hV
    clear hE hy hmem hV hTl hTp hls
    go_enter Tryz.func4, Tryz.ntmps4
    go_wp2_with fail
    refine HP.out.mono ?_
    rintro e w1 ⟨A1, R1, O1, a1, b1, d1, rfl, i1, f1, k1⟩
    simp only at i1
    obtain ⟨b, o, rfl, hcs⟩ := i1.head (show 0 < hd.length by rw [HL.out]; omega)
    have hv0 := hcs n (show n < hd.length by rw [HL.out]; omega)
    simp only [HVn.out, HV.out] at hv0
    simp only [qryV, HL.out, List.length_nil]
    have x1 := below_one w1 (.cells #[.slice (some ⟨b, o, none⟩) (n + 1) a1, .int .i64 ag, .string ⟨av.toArray⟩, .slice R1 rs.length b1, .slice O1 0 d1] 27)
    have h1 := heap_alloc_new w1 (.cells #[.slice (some ⟨b, o, none⟩) (n + 1) a1, .int .i64 ag, .string ⟨av.toArray⟩, .slice R1 rs.length b1, .slice O1 0 d1] 27)
    have l1 : w1.heap.size < (w1.alloc (.cells #[.slice (some ⟨b, o, none⟩) (n + 1) a1, .int .i64 ag, .string ⟨av.toArray⟩, .slice R1 rs.length b1, .slice O1 0 d1] 27)).heap.size := by simp
    obtain ⟨w2, hw2⟩ : ∃ w2, w1.alloc (.cells #[.slice (some ⟨b, o, none⟩) (n + 1) a1, .int .i64 ag, .string ⟨av.toArray⟩, .slice R1 rs.length b1, .slice O1 0 d1] 27) = w2 := ⟨_, rfl⟩
    rw [hw2] at x1 h1 l1
    have HW2 := hid hw2
    have kk := k1.trans (x1.mono k1.size)
    have K2 := hid kk
    have I1 := hid i1
    have G2 := hid h1
    have B2 := hid x1
    have c10 := box_cell h1 0
    have c11 := box_cell h1 1
    have c12 := box_cell h1 2
    have c13 := box_cell h1 3
    have c14 := box_cell h1 4
    have hv2 := cell_keep x1 hv0
    have HV0 := hid hv0
    have HP2 := hid (prs_parse_far (s ++ (⟨#[32, 111, 114, 100, 101, 114, 32]⟩ : ByteArray) ++ V ++ (⟨#[32, 100, 101, 115, 99]⟩ : ByteArray)) w2 (HE.out.below kk) HTL.out.1 rfl HTL.out.2)
    have hq0 : (((n : Int) + 1) == 0) = false := by simp; omega
    have hn9 : n < 9223372036854775807 := by have h1 := I1.out.mh; have h2 := HL.out; simp only at h1; omega
    have HKS := hid k1.size
    clear hw2 HP i1 k1 x1 h1 kk hcs hv0 f1
    go_wp2_with (first | rw [HW2.out] | fail)
    refine HP2.out.mono ?_
    rintro e w3 ⟨A2, R2, O2, a2, b2, d2, rfl, i3, i3s, f3, k3⟩
    simp only at i3s
    simp only [qryV, HL.out, List.length_singleton]
    have x3 := below_one w3 (.cells #[.slice A2 (n + 1) a2, .int .i64 ag, .string ⟨av.toArray⟩, .slice R2 rs.length b2, .slice O2 1 d2] 27)
    have h3 := heap_alloc_new w3 (.cells #[.slice A2 (n + 1) a2, .int .i64 ag, .string ⟨av.toArray⟩, .slice R2 rs.length b2, .slice O2 1 d2] 27)
    have l3 : w3.heap.size < (w3.alloc (.cells #[.slice A2 (n + 1) a2, .int .i64 ag, .string ⟨av.toArray⟩, .slice R2 rs.length b2, .slice O2 1 d2] 27)).heap.size := by simp
    obtain ⟨w4, hw4⟩ : ∃ w4, w3.alloc (.cells #[.slice A2 (n + 1) a2, .int .i64 ag, .string ⟨av.toArray⟩, .slice R2 rs.length b2, .slice O2 1 d2] 27) = w4 := ⟨_, rfl⟩
    rw [hw4] at x3 h3 l3
    have l13 : w1.heap.size < w3.heap.size := Nat.lt_of_lt_of_le l1 k3.size
    have l14 : w1.heap.size < w4.heap.size := by omega
    have kk := k3.trans (x3.mono k3.size)
    have B4 := hid (B2.out.trans (kk.mono B2.out.size))
    have K4 := hid (K2.out.trans (kk.mono K2.out.size))
    have g4 := (kk.block w1.heap.size l1).trans G2.out
    have x5 := below_one w4 (.cells #[.string V, .bool true] 37)
    have h5 := heap_alloc_new w4 (.cells #[.string V, .bool true] 37)
    have l5 : w4.heap.size < (w4.alloc (.cells #[.string V, .bool true] 37)).heap.size := by simp
    obtain ⟨w5, hw5⟩ : ∃ w5, w4.alloc (.cells #[.string V, .bool true] 37) = w5 := ⟨_, rfl⟩
    rw [hw5] at x5 h5 l5
    have g5 := (x5.block w1.heap.size l14).trans g4
    have s6 := heap_setCell_same w5 w1.heap.size 4 _ _ (.slice (some ⟨w4.heap.size, 0, none⟩) 1 1) g5
    have o6 := Below.heap_setCell w5 ⟨w1.heap.size, 4, none⟩ (.slice (some ⟨w4.heap.size, 0, none⟩) 1 1)
    have z6 : w5.heap.size = (w5.setCell ⟨w1.heap.size, 4, none⟩ (.slice (some ⟨w4.heap.size, 0, none⟩) 1 1)).heap.size := by simp [World.setCell]
    have B6 := hid ((B4.out.trans (x5.mono B4.out.size)).setCell (p := ⟨w1.heap.size, 4, none⟩) (Nat.le_refl _) (.slice (some ⟨w4.heap.size, 0, none⟩) 1 1))
    have K6 := hid ((K4.out.trans (x5.mono K4.out.size)).setCell (p := ⟨w1.heap.size, 4, none⟩) HKS.out (.slice (some ⟨w4.heap.size, 0, none⟩) 1 1))
    obtain ⟨w6, hw6⟩ : ∃ w6, w5.setCell ⟨w1.heap.size, 4, none⟩ (.slice (some ⟨w4.heap.size, 0, none⟩) 1 1) = w6 := ⟨_, rfl⟩
    rw [hw6] at s6 o6 z6 B6 K6
    have g6 : w6.heap[w1.heap.size]? = some (.cells #[.slice (some ⟨b, o, none⟩) (n + 1) a1, .int .i64 ag, .string ⟨av.toArray⟩, .slice R1 rs.length b1, .slice (some ⟨w4.heap.size, 0, none⟩) 1 1] 27) := s6
    have p6 := (o6 w3.heap.size (by show ¬ w3.heap.size = w1.heap.size; omega)).trans ((x5.block w3.heap.size l3).trans h3)
    have y6 := (o6 w4.heap.size (by show ¬ w4.heap.size = w1.heap.size; omega)).trans h5
    have HA := hid (HAw w6 K6.out).out
    have I6 := hid (show QryIn w6 ⟨hd, ag, av, rs, [⟨v, true⟩]⟩ (some ⟨b, o, none⟩) R1 (some ⟨w4.heap.size, 0, none⟩) a1 b1 1 from
      ⟨I1.out.head.below B6.out, I1.out.rules.below B6.out, kys_one (by rw [HV.out]; exact y6), I1.out.lh, I1.out.lr, Nat.le_refl _, I1.out.mh, I1.out.mr, (by show 1 ≤ 9223372036854775807; decide)⟩)
    have J6 := hid (own_qry (i3.chg (((chg_below (S := [w1.heap.size]) x3).trans (chg_below x5)).set (b := w1.heap.size) (.inl (by simp)) 4 (.slice (some ⟨w4.heap.size, 0, none⟩) 1 1)) (fun s hs => by simp at hs; omega)) i3s)
    rw [hw6] at J6
    have HW4 := hid hw4
    have HW5 := hid hw5
    have HW6 := hid hw6
    have G6 := hid (And.intro g6 p6)
    have L6 := hid (And.intro (show w1.heap.size < w6.heap.size by omega) (show w3.heap.size < w6.heap.size by omega))
    have c40 := box_cell g4 0
    have c41 := box_cell g4 1
    have c42 := box_cell g4 2
    have c43 := box_cell g4 3
    have c44 := box_cell g4 4
    have c54 := box_cell g5 4
    have f54 := box_free g5 4
    have hv4 := cell_keep B4.out HV0.out
    clear hw4 hw5 hw6 s6 o6 z6 g6 p6 y6 g4 g5 h3 h5 x3 x5 i3 i3s f3 k3 kk c10 c11 c12 c13 c14 hv2 HP2 K2 G2 B2 HAw
    go_wp2_with (first | rw [HW4.out] | rw [HW5.out] | rw [HW6.out] | fail)
    refine HA.out.mono ?_
    rintro e w7 ⟨rfl, k7⟩
    have K7 := hid (K6.out.trans (k7.mono K6.out.size))
    have HEq := hid (ast_equal ⟨hd, ag, av, rs, [⟨v, true⟩]⟩ ⟨hd, ag, av, rs, [⟨v, true⟩]⟩ A2 R2 O2 (some ⟨b, o, none⟩) R1 (some ⟨w4.heap.size, 0, none⟩) a2 b2 d2 a1 b1 1 w7 (J6.out.below k7) (I6.out.below k7) (b := true) ⟨fun _ => rfl, fun _ => rfl⟩)
    have g1 := (k7.block w1.heap.size L6.out.1).trans G6.out.1
    have g2 := (k7.block w3.heap.size L6.out.2).trans G6.out.2
    simp only [qryV, HL.out, List.length_singleton] at HEq
    have c70 := box_cell g1 0
    have c71 := box_cell g1 1
    have c72 := box_cell g1 2
    have c73 := box_cell g1 3
    have c74 := box_cell g1 4
    have c80 := box_cell g2 0
    have c81 := box_cell g2 1
    have c82 := box_cell g2 2
    have c83 := box_cell g2 3
    have c84 := box_cell g2 4
    clear HA k7 g1 g2 G6 I6 J6 K6 c40 c41 c42 c43 c44 c54 f54 hv4
    go_wp2_with fail
    refine HEq.out.mono ?_
    rintro e w8 ⟨rfl, k8⟩
    have K8 := hid (K7.out.trans (k8.mono K7.out.size))
    clear HEq k8 K7
    go_wp2
    go_ret
    exact ⟨rfl, K8.out⟩
end
end Go.Proofs.YtnbacdmlaedppaaGreatDoor
