/-
  PARTS of a claim, merged by segs.py: Sk16, Sk19, Sk20, Sk17.
-/
import Derived.Test.YtjhnopnppimnhaaGreatDoorZ39
import Derived.Test.YtjhnopnppimnhaaGreatDoorZ19
import Derived.Test.YtjhnopnppimnhaaGreatDoorZ36
import Derived.Test.YtjhnopnppimnhaaGreatDoorZ05
import Derived.Test.YtjhnopnppimnhaaGreatDoorZ37
import Derived.Test.YtjhnopnppimnhaaGreatDoorZ20
import Derived.Deep.QuietTactic
namespace Go.Proofs.YtjhnopnppimnhaaGreatDoor

/-! ### Sk16 -/
section
open Go.RowKit

theorem bldB {T e : TypeId} {B b : Nat} {p : Value} {bs : List Value} {w w' : World} (h : Lib.BuilderAt T e B b p bs w) (hb : Below w.heap.size w w') : Lib.BuilderAt T e B b p bs w' := by
  have hlt := h.lt
  obtain ⟨hB, v, hbk, hown, hne⟩ := h
  exact ⟨hB, v, (hb.block b hlt).trans hbk, own_belowS hown hb, hne⟩
theorem isbB {T e : TypeId} {B b : Nat} {bs : List Value} {w w' : World} (h : Lib.IsBuilder T e B b bs w) (hb : Below w.heap.size w w') : Lib.IsBuilder T e B b bs w' := h.elim (fun x => .inl (bldB x hb)) (fun x => .inr (bldB x hb))
theorem bldA {T e : TypeId} {B b : Nat} {p : Value} {l x : List UInt8} {w : World} {y : List Value} (hy : Lib.byteCells x = y) (h : Lib.BuilderAt T e B b p (Lib.byteCells l ++ y) w) : Lib.BuilderAt T e B b p (Lib.byteCells (l ++ x)) w := by
  subst hy; rw [Lib.byteCells_append]; exact h
def textsC (l : List (Nat × Cm)) : Str := l.flatMap fun x => textC x.2
theorem texts_take {l : List (Nat × Cm)} {k : Nat} (h : k < l.length) : textsC (l.take (k + 1)) = textsC (l.take k) ++ textC l[k].2 := by
  unfold textsC
  rw [List.take_succ_eq_append_getElem h, List.flatMap_append]; simp
theorem texts_le {l : List (Nat × Cm)} (k : Nat) : (textsC (l.take k)).length ≤ (textsC l).length := by
  have : textsC l = textsC (l.take k) ++ textsC (l.drop k) := by
    unfold textsC
    rw [← List.flatMap_append, List.take_append_drop]
  rw [this, List.length_append]; omega

set_option maxRecDepth 100000 in
set_option maxHeartbeats 8000000 in
theorem scr_print (A : Option Addr) (ca : Nat) (l : List (Nat × Cm)) (w : World) (hE : EnvS w) (hA : CmsAt w A l) (hok : ∀ k (h : k < l.length), CmOk l[k].2) (hn : l.length ≤ 70000) (hlen : (textsC l).length ≤ 60000) :
    Calls Tryz.prog 10 #[.slice A l.length ca] w fun e w' => e = .returned (.tuple #[.string ⟨(textsC l).toArray⟩, .int .i64 0]) ∧ Below w.heap.size w w' := by
  have hfb := Lib.fresh_isBuilder 54 5 w
  have k0 := below_one w (.cells #[.pointer none, .slice none 0 0] 54)
  have HE := hid hE
  have HA := hid hA
  have HOk := hid hok
  have HLe := hid (fun k => texts_le (l := l) k)
  have HTk := hid (fun k (h : k < l.length) => texts_take h)
  have HCk := hid (fun k (h : k < l.length) T R ct cr n W (hE : EnvS W) (hc : CmAt W T ct R cr l[k].2) => scr_check n l[k].2 T R ct cr W hE hc (hok k h) (by have := texts_le (l := l) (k + 1); rw [texts_take h, List.length_append] at this; omega))
  have HTx := hid (fun k (h : k < l.length) T R ct cr n W (hE : EnvS W) (hc : CmAt W T ct R cr l[k].2) => scr_text n l[k].2 T R ct cr W hE hc (hok k h) (by have := texts_le (l := l) (k + 1); rw [texts_take h, List.length_append] at this; omega))
  clear hE hA hok
  go_enter Tryz.func10, Tryz.ntmps10
  go_wp2_with fail
  go_loopw [10] (fun i wr => ∃ (k : Nat), k ≤ l.length ∧ i = .int .i64 k ∧ Hid (Lib.IsBuilder 54 5 w.heap.size w.heap.size (Lib.byteCells (textsC (l.take k))) wr) ∧ Below w.heap.size w wr) (fun i _ => l.length - (intOf i).toNat)
  case atStart => exact ⟨0, by omega, rfl, hid hfb, k0⟩
  case round =>
    obtain ⟨k, hk, rfl, HB, hbel⟩ := hrel
    clear hfb k0
    have hsz := hbel.size
    by_cases hlt : k < l.length
    · obtain ⟨b, o, rfl, hcs⟩ := (HA.out.below hbel) (by omega)
      obtain ⟨T, ct, R, cr, h0, h1, h2, h3, h4, h5, h6, h7, h8, h9⟩ := hcs k hlt
      have HC0 := hid (show CmAt wr T ct R cr l[k].2 from ⟨h6, h7, h8, h9⟩)
      have HCk1 := hid (HCk.out k hlt T R ct cr l[k].1)
      have HTx1 := hid (HTx.out k hlt T R ct cr l[k].1)
      have htl := HLe.out (k + 1)
      rw [HTk.out k hlt, List.length_append] at htl
      have HTk1 := hid (HTk.out k hlt)
      obtain ⟨n, c, hnc⟩ : ∃ n c, l[k] = (n, c) := ⟨_, _, rfl⟩
      rw [hnc] at h0 h1 h2 h3 h4 h5 HC0 HCk1 HTx1 htl HTk1
      simp only at h0 h1 h2 h3 h4 h5 HC0 HCk1 HTx1 htl HTk1
      have hb := heap_alloc_new wr (.cells (cmA n c (.slice T c.nums.length ct) (.slice R c.row.length cr)) 35)
      have k1 := below_one wr (.cells (cmA n c (.slice T c.nums.length ct) (.slice R c.row.length cr)) 35)
      have K1 := hid (hbel.trans (k1.mono hsz))
      have HC1 := hid (HC0.out.below k1)
      have HB1 := hid (isbB HB.out k1)
      have HCc := hid (HCk1.out _ (HE.out.below K1.out) HC1.out)
      have HHb := hid hb
      have hbl := lt_of_block hb
      clear hcs h6 h7 h8 h9 hnc HCk HTx HLe HTk HA HOk HB hb k1
      go_wp2_with fail
      refine HCc.out.mono ?_
      rintro e w5 ⟨rfl, b5⟩
      have hb5 := (b5.block _ (lt_of_block HHb.out)).trans HHb.out
      have K5 := hid (K1.out.trans (b5.mono K1.out.size))
      have HB5 := hid (isbB HB1.out b5)
      have HC5 := hid (HC1.out.below b5)
      have HTt := hid (HTx1.out w5 (HE.out.below K5.out) HC5.out)
      obtain ⟨y0, y1, y2, y3, y4, y5⟩ : w5.cell? ⟨wr.heap.size, 0, none⟩ = some (.int .i64 n) ∧ w5.cell? ⟨wr.heap.size, 1, none⟩ = some (.int .i64 c.op) ∧ w5.cell? ⟨wr.heap.size, 2, none⟩ = some (.string ⟨c.name.toArray⟩) ∧ w5.cell? ⟨wr.heap.size, 3, none⟩ = some (.slice T c.nums.length ct) ∧ w5.cell? ⟨wr.heap.size, 4, none⟩ = some (.slice R c.row.length cr) ∧ w5.cell? ⟨wr.heap.size, 5, none⟩ = some (.string ⟨c.query.toArray⟩) := ⟨box_cell hb5 0, box_cell hb5 1, box_cell hb5 2, box_cell hb5 3, box_cell hb5 4, box_cell hb5 5⟩
      clear HCc b5 hb5 HB1 HC1 K1 HHb h0 h1 h2 h3 h4 h5 HCk1 HTx1
      go_wp2_with fail
      refine HTt.out.mono ?_
      rintro e w6 ⟨rfl, b6⟩
      have K6 := hid (K5.out.trans (b6.mono K5.out.size))
      have HB6 := hid (isbB HB5.out b6)
      have HWs := hid (writeString w.heap.size w.heap.size (Lib.byteCells (textsC (l.take k))) ⟨(textC c).toArray⟩ w6 HB6.out (by rw [Lib.byteCells_length, size_l]; omega) K6.out.size)
      clear HTt b6 HB5 HC5 HC0 y0 y1 y2 y3 y4 y5 HB6
      go_wp2_with fail
      refine HWs.out.mono ?_
      rintro e w7 ⟨rfl, hbl7, b7⟩
      have HB7 := hid (show Lib.IsBuilder 54 5 w.heap.size w.heap.size (Lib.byteCells (textsC (l.take (k + 1)))) w7 from by
        rw [HTk1.out]
        exact .inr (bldA (x := textC c) rfl hbl7))
      have K7 := hid (K6.out.trans (b7.mono (Nat.le_refl _)))
      clear HWs hbl7 b7
      go_wp2
      go_roundw
      case rel => exact ⟨k + 1, by omega, by go_num, HB7, K7.out⟩
      case measure => simp [intOf]; omega
    · have hB := HB.out
      rw [List.take_of_length_le (by omega)] at hB
      have HLn := fun W (h : Lib.IsBuilder 54 5 w.heap.size w.heap.size (Lib.byteCells (textsC l)) W) => hid (Tryz.Builder_Len w.heap.size w.heap.size _ W h)
      have HL1 := hid (HLn wr hB).out
      rw [Lib.byteCells_length] at HL1
      have HSt := hid (Tryz.Builder_String_any w.heap.size w.heap.size (textsC l) wr hB hsz)
      have i1 : ¬ (65536 : Int) < (textsC l).length := by omega
      have hbel2 := hid hbel
      clear HLn hB HB HCk HTx HLe HTk HA HOk hbel
      go_wp2_with fail
      refine HL1.out.mono ?_
      rintro e w8 ⟨rfl, rfl⟩
      clear HL1
      go_wp2_with fail
      refine HSt.out.mono ?_
      rintro e w9 ⟨rfl, b9⟩
      have K9 := hid (hbel2.out.trans b9)
      clear HSt b9
      go_wp2
      go_ret2
      exact ⟨rfl, K9.out⟩
end

/-! ### Sk19 -/
section

def sxQ : Str := [97, 110, 115, 40, 120, 41, 32, 58, 45, 32, 114, 40, 120, 44, 32, 121, 41]
def sxT : List Tok := [⟨1, [97, 110, 115], V0, 0⟩, ⟨4, [40], V0, 3⟩, ⟨1, [120], V0, 4⟩, ⟨4, [41], V0, 5⟩, ⟨4, [58, 45], V0, 7⟩, ⟨1, [114], V0, 10⟩, ⟨4, [40], V0, 11⟩, ⟨1, [120], V0, 12⟩, ⟨4, [44], V0, 13⟩, ⟨1, [121], V0, 15⟩, ⟨4, [41], V0, 16⟩, ⟨0, [], V0, 17⟩]
theorem sxQ_scan : scanL sxQ = (sxT, 0, 0) := by
  refine scanL_sc (by decide) ?_
  unfold sxQ sxT
  refine tok_step (by decide) (by decide) (by rfl) rfl rfl ?_
  refine tok_step (by decide) (by decide) (by rfl) rfl rfl ?_
  refine tok_step (by decide) (by decide) (by rfl) rfl rfl ?_
  refine tok_step (by decide) (by decide) (by rfl) rfl rfl ?_
  refine Sc.white (by decide) ?_
  refine tok_step (by decide) (by decide) (by rfl) rfl rfl ?_
  refine Sc.white (by decide) ?_
  refine tok_step (by decide) (by decide) (by rfl) rfl rfl ?_
  refine tok_step (by decide) (by decide) (by rfl) rfl rfl ?_
  refine tok_step (by decide) (by decide) (by rfl) rfl rfl ?_
  refine tok_step (by decide) (by decide) (by rfl) rfl rfl ?_
  refine Sc.white (by decide) ?_
  refine tok_step (by decide) (by decide) (by rfl) rfl rfl ?_
  refine tok_step (by decide) (by decide) (by rfl) rfl rfl ?_
  exact Sc.nil _
theorem sxQ_gram : gramQ sxT = (⟨[[120]], 0, [], [⟨[⟨false, [114], [⟨[120], V0⟩, ⟨[121], V0⟩]⟩], []⟩], []⟩, 0, 0) := by kernel_rfl
theorem sxQ_acc : accB sxQ = true := by
  unfold accB
  rw [sxQ_scan]
  unfold parseP
  rw [if_pos rfl]
  simp only [sxQ_gram]
  rw [if_pos trivial, if_pos (by kernel_rfl)]
  decide +kernel
def sxY1 : Str := [115, 99, 104, 101, 109, 97, 32, 114, 32, 105, 110, 116, 32, 115, 116, 114]
def sxY2 : Str := [35, 32, 114, 111, 119, 115]
def sxY3 : Str := [105, 110, 115, 101, 114, 116, 32, 114, 32, 40, 49, 44, 32, 34, 97, 34, 41]
def sxY4 : Str := [99, 111, 109, 109, 105, 116]
def sxY5 : Str := [111, 112, 101, 110, 32, 45, 49, 32, 97, 110, 115, 40, 120, 41, 32, 58, 45, 32, 114, 40, 120, 44, 32, 121, 41]
def sxR : List V := [⟨1, 1, ⟨#[]⟩⟩, ⟨2, 0, ⟨#[97]⟩⟩]
def sxC1 : Cm := ⟨0, [114], [1, 2], [], []⟩
def sxC3 : Cm := ⟨1, [114], [], sxR, []⟩
def sxC4 : Cm := ⟨3, [], [], [], []⟩
def sxC5 : Cm := ⟨8, [], [-1], [], sxQ⟩
theorem sxR_text : rowTextL sxR = [40, 49, 44, 32, 34, 97, 34, 41] := by
  have h : textL ⟨1, 1, ⟨#[]⟩⟩ = [49] := by
    rw [textL_int (by decide +kernel) rfl]
    show Lib.itoa 1 = _
    unfold Lib.itoa
    rw [if_neg (by decide)]
    show Lib.decDigits 1 = _
    rw [Lib.decDigits_one (by decide)]; rfl
  have h2 : textL ⟨2, 0, ⟨#[97]⟩⟩ = [34, 97, 34] := by decide +kernel
  unfold rowTextL sxR
  rw [rowBody_more, rowBody_one', h, h2]; rfl
theorem sxR_row : rowQ [40, 49, 44, 32, 34, 97, 34, 41] = some sxR := by
  rw [← sxR_text]
  exact rowQ_text (by
    intro v hv
    unfold sxR at hv
    simp only [List.mem_cons, List.not_mem_nil, or_false] at hv
    rcases hv with rfl | rfl
    · exact ⟨by decide +kernel, by unfold I64; decide⟩
    · exact ⟨by decide +kernel, by unfold I64; decide⟩)
theorem sx_line1 : lineS sxY1 = (sxC1, 0) := by kernel_rfl
theorem sx_line4 : lineS sxY4 = (sxC4, 0) := by kernel_rfl
theorem sx_line3 : lineS sxY3 = (sxC3, 0) := by
  have h1 : cutL 32 sxY3 = ([105, 110, 115, 101, 114, 116], [114, 32, 40, 49, 44, 32, 34, 97, 34, 41], true) := by kernel_rfl
  have hop : opOf [105, 110, 115, 101, 114, 116] = 1 := by kernel_rfl
  have h2 : argsF (shpOf 1) = [.nam, .row] := by kernel_rfl
  have h3 : scanA .nam ⟨[114, 32, 40, 49, 44, 32, 34, 97, 34, 41], !true, ⟨1, [], [], [], []⟩⟩ = (⟨[40, 49, 44, 32, 34, 97, 34, 41], false, ⟨1, [114], [], [], []⟩⟩, 0) := by kernel_rfl
  have h4 : scanA .row ⟨[40, 49, 44, 32, 34, 97, 34, 41], false, ⟨1, [114], [], [], []⟩⟩ = (⟨[40, 49, 44, 32, 34, 97, 34, 41], true, sxC3⟩, 0) := by
    show Sn.setRow ⟨[40, 49, 44, 32, 34, 97, 34, 41], true, ⟨1, [114], [], [], []⟩⟩ [40, 49, 44, 32, 34, 97, 34, 41] = _
    unfold Sn.setRow
    rw [sxR_row]; rfl
  have h5 : runA [.nam, .row] ⟨[114, 32, 40, 49, 44, 32, 34, 97, 34, 41], !true, ⟨1, [], [], [], []⟩⟩ = (⟨[40, 49, 44, 32, 34, 97, 34, 41], true, sxC3⟩, 0) := by
    rw [runA_cons, h3, if_pos rfl, runA_cons, h4, if_pos rfl]; rfl
  unfold lineS
  rw [h1]
  simp only
  rw [hop, h2, h5]
  rw [if_neg (by decide), if_neg (by decide), if_pos rfl]
theorem sx_line5 : lineS sxY5 = (sxC5, 0) := by
  have h1 : cutL 32 sxY5 = ([111, 112, 101, 110], [45, 49, 32, 97, 110, 115, 40, 120, 41, 32, 58, 45, 32, 114, 40, 120, 44, 32, 121, 41], true) := by kernel_rfl
  have hop : opOf [111, 112, 101, 110] = 8 := by kernel_rfl
  have h2 : argsF (shpOf 8) = [.num (-1) i64hi, .qry] := by kernel_rfl
  have h3 : scanA (.num (-1) i64hi) ⟨[45, 49, 32, 97, 110, 115, 40, 120, 41, 32, 58, 45, 32, 114, 40, 120, 44, 32, 121, 41], !true, ⟨8, [], [], [], []⟩⟩ = (⟨sxQ, false, ⟨8, [], [-1], [], []⟩⟩, 0) := by kernel_rfl
  have h4 : scanA .qry ⟨sxQ, false, ⟨8, [], [-1], [], []⟩⟩ = (⟨sxQ, true, sxC5⟩, 0) := by
    show (Sn.qryS ⟨sxQ, false, ⟨8, [], [-1], [], []⟩⟩) = _
    unfold Sn.qryS Sn.tail
    simp only
    rw [if_neg (by decide)]
    simp only
    rw [if_neg (by unfold sxQ; simp), if_neg (by rw [sxQ_acc]; decide)]; rfl
  have h5 : runA [.num (-1) i64hi, .qry] ⟨[45, 49, 32, 97, 110, 115, 40, 120, 41, 32, 58, 45, 32, 114, 40, 120, 44, 32, 121, 41], !true, ⟨8, [], [], [], []⟩⟩ = (⟨sxQ, true, sxC5⟩, 0) := by
    rw [runA_cons, h3, if_pos rfl, runA_cons, h4, if_pos rfl]; rfl
  unfold lineS
  rw [h1]
  simp only
  rw [hop, h2, h5]
  rw [if_neg (by decide), if_neg (by decide), if_pos rfl]
def sxD : List Str := [sxY1, sxY2, sxY3, sxY4, sxY5]
theorem sx_bad (y : Str) (c : Cm) (h : y.all prnB = true) (hl : lineS y = (c, 0)) : badE y = 0 := by
  unfold badE
  rw [if_neg (by rw [h]; decide), hl]
  split <;> rfl
theorem sx_good : GoodL sxD := fun y hy => by
  unfold sxD at hy
  simp only [List.mem_cons, List.not_mem_nil, or_false] at hy
  rcases hy with rfl | rfl | rfl | rfl | rfl
  · exact sx_bad _ _ (by kernel_rfl) sx_line1
  · kernel_rfl
  · exact sx_bad _ _ (by kernel_rfl) sx_line3
  · exact sx_bad _ _ (by kernel_rfl) sx_line4
  · exact sx_bad _ _ (by kernel_rfl) sx_line5
def sxL : List (Nat × Cm) := [(1, sxC1), (3, sxC3), (4, sxC4), (5, sxC5)]
theorem sx_cmds : cmdsOf 1 sxD = sxL := by
  unfold sxD sxL
  rw [cmdsOf_cons, cmdsOf_cons, cmdsOf_cons, cmdsOf_cons, cmdsOf_cons, sx_line1, sx_line3, sx_line4, sx_line5]
  rw [show blankB sxY1 = false by kernel_rfl, show blankB sxY2 = true by kernel_rfl, show blankB sxY3 = false by kernel_rfl, show blankB sxY4 = false by kernel_rfl, show blankB sxY5 = false by kernel_rfl]
  rfl
theorem sx_script : scriptS (linesT sxD) = (sxL, 0, 0) := by
  rw [script_lines sx_good (by decide), sx_cmds]
theorem sx_ok (k : Nat) (h : k < sxL.length) : CmOk sxL[k].2 := by
  have l1 := (good_line (y := sxY1) (sx_good _ (by unfold sxD; simp)) (by kernel_rfl)).2
  have l3 := (good_line (y := sxY3) (sx_good _ (by unfold sxD; simp)) (by kernel_rfl)).2
  have l4 := (good_line (y := sxY4) (sx_good _ (by unfold sxD; simp)) (by kernel_rfl)).2
  have l5 := (good_line (y := sxY5) (sx_good _ (by unfold sxD; simp)) (by kernel_rfl)).2
  rw [sx_line1] at l1
  rw [sx_line3] at l3
  rw [sx_line4] at l4
  rw [sx_line5] at l5
  match k, h with
  | 0, _ => exact l1
  | 1, _ => exact l3
  | 2, _ => exact l4
  | 3, _ => exact l5
def sxP : Str := linesT [sxY1, sxY3, sxY4, sxY5]
theorem sx_texts : (sxL.flatMap fun x => textC x.2) = sxP := by
  have l1 := (good_line (y := sxY1) (sx_good _ (by unfold sxD; simp)) (by kernel_rfl)).1
  have l3 := (good_line (y := sxY3) (sx_good _ (by unfold sxD; simp)) (by kernel_rfl)).1
  have l4 := (good_line (y := sxY4) (sx_good _ (by unfold sxD; simp)) (by kernel_rfl)).1
  have l5 := (good_line (y := sxY5) (sx_good _ (by unfold sxD; simp)) (by kernel_rfl)).1
  rw [sx_line1] at l1
  rw [sx_line3] at l3
  rw [sx_line4] at l4
  rw [sx_line5] at l5
  show textC sxC1 ++ (textC sxC3 ++ (textC sxC4 ++ (textC sxC5 ++ []))) = _
  rw [l1, l3, l4, l5]; rfl

/-- The names without arguments. -/
def argB (k : Nat) : Bool := (shpOf k).name || ((shpOf k).row || ((shpOf k).query || decide (0 < (shpOf k).nums.length)))
theorem nam_alone : ∀ i : Fin 20, (argB i.val = true → (scriptS (nam6.getD i.val [] ++ [10])).2.2 = 15 ∧ (scriptS (nam6.getD i.val [] ++ [10])).2.1 = 1 ∧ (scriptS (nam6.getD i.val [] ++ [10])).1.length = 0) ∧
    (argB i.val = false → (scriptS (nam6.getD i.val [] ++ [10])).2.2 = 0 ∧ (scriptS (nam6.getD i.val [] ++ [10])).1.map (fun x => x.2.op) = [i.val] ∧ (scriptS (nam6.getD i.val [] ++ [32, 49, 10])).2.2 = 15) := by decide +kernel
end

/-! ### Sk20 -/
section
open Go.RowKit

def sxB : ByteArray := ⟨#[115, 99, 104, 101, 109, 97, 32, 114, 32, 105, 110, 116, 32, 115, 116, 114, 10, 35, 32, 114, 111, 119, 115, 10, 105, 110, 115, 101, 114, 116, 32, 114, 32, 40, 49, 44, 32, 34, 97, 34, 41, 10, 99, 111, 109, 109, 105, 116, 10, 111, 112, 101, 110, 32, 45, 49, 32, 97, 110, 115, 40, 120, 41, 32, 58, 45, 32, 114, 40, 120, 44, 32, 121, 41, 10]⟩
theorem sxB_list : sxB.data.toList = linesT sxD := by kernel_rfl
set_option maxRecDepth 100000 in
theorem law_example (w : World) : Calls Tryz.prog 15 #[] w fun e w' => e = .returned (.string sxB) ∧ w = w' := by
  go_enter Tryz.func15, Tryz.ntmps15
  go_wp2
  go_ret
  exact ⟨by kernel_rfl, rfl⟩
def sxPB : ByteArray := ⟨#[115, 99, 104, 101, 109, 97, 32, 114, 32, 105, 110, 116, 32, 115, 116, 114, 10, 105, 110, 115, 101, 114, 116, 32, 114, 32, 40, 49, 44, 32, 34, 97, 34, 41, 10, 99, 111, 109, 109, 105, 116, 10, 111, 112, 101, 110, 32, 45, 49, 32, 97, 110, 115, 40, 120, 41, 32, 58, 45, 32, 114, 40, 120, 44, 32, 121, 41, 10]⟩
theorem sxPB_list : sxPB = ⟨sxP.toArray⟩ := by kernel_rfl

set_option maxRecDepth 100000 in
set_option maxHeartbeats 8000000 in
theorem awake60 (w : World) (hE : EnvS w) : Calls Tryz.prog 7 #[] w fun e w' => e = .returned (.bool true) ∧ Below w.heap.size w w' := by
  have H1 := hid (fun W => law_example W)
  have H2 := hid (scr_parse sxB w hE (x := (sxL, 0, 0)) (by rw [sxB_list]; exact sx_script))
  have hT : textsC sxL = sxP := sx_texts
  have H3 := hid (fun A c W (k : Below w.heap.size w W) (h : CmsAt W A sxL) => scr_print A c sxL W (hE.below k) h sx_ok (by decide) (by rw [hT]; decide))
  rw [hT, ← sxPB_list] at H3
  have H4 := hid (fun R cr W (k : Below w.heap.size w W) (h : RowAt W R sxR) => row_textB R cr sxR W h (by decide) (text_ok (r := sxR) (by
    intro v hv
    unfold sxR at hv
    simp only [List.mem_cons, List.not_mem_nil, or_false] at hv
    rcases hv with rfl | rfl
    · exact ⟨by decide +kernel, by unfold I64; decide⟩
    · exact ⟨by decide +kernel, by unfold I64; decide⟩)).1 (hE.below k).env.env.tab (T := ⟨#[40, 49, 44, 32, 34, 97, 34, 41]⟩) (by rw [sxR_text]))
  clear hE hT
  go_enter Tryz.func7, Tryz.ntmps7
  go_wp2_with fail
  refine (H1.out _).mono ?_
  rintro e w1 ⟨rfl, rfl⟩
  clear H1
  go_wp2_with fail
  refine H2.out.mono ?_
  rintro e w1 ⟨A, c, rfl, ho, -, k1⟩
  obtain ⟨A', c', e1, hcm, -⟩ := own_cms ho
  injection e1 with e1 _ e2
  subst e1 e2
  have HCm := hid hcm
  have H5 := hid (H3.out A c w1 k1 hcm)
  have K1 := hid k1
  have e4 : (sxL.length : Int) = 4 := rfl
  have e4n : sxL.length = 4 := rfl
  simp only [e4n] at H5 ⊢
  clear H2 H3 ho hcm k1 e4 e4n
  go_wp2_with fail
  refine H5.out.mono ?_
  rintro e w2 ⟨rfl, b2⟩
  have K2 := hid (K1.out.trans (b2.mono K1.out.size))
  obtain ⟨b, o, rfl, hcs⟩ := (HCm.out.below b2) (by decide)
  obtain ⟨T0, t0, R0, r0, a0, -, -, a3, -⟩ := hcs 0 (by decide)
  obtain ⟨T1, t1, R1, r1, f0, -, -, -, f4, -, -, -, fr, fc⟩ := hcs 1 (by decide)
  obtain ⟨T3, t3, R3, r3, g0, g1, -, g3, -, g5, gi, gc, -⟩ := hcs 3 (by decide)
  have H6 := hid (H4.out R1 r1 w2 K2.out fr)
  obtain ⟨b3, o3, rfl, hci⟩ := gi (by decide)
  have i0 := hci 0 (by decide)
  replace a0 : w2.cell? ⟨b, o, none⟩ = some (.int .i64 1) := a0
  replace a3 : w2.cell? ⟨b, o + 3, none⟩ = some (.slice T0 2 t0) := a3
  replace f0 : w2.cell? ⟨b, o + 6, none⟩ = some (.int .i64 3) := f0
  replace f4 : w2.cell? ⟨b, o + 6 + 4, none⟩ = some (.slice R1 2 r1) := f4
  replace g0 : w2.cell? ⟨b, o + 18, none⟩ = some (.int .i64 5) := g0
  replace g1 : w2.cell? ⟨b, o + 18 + 1, none⟩ = some (.int .i64 8) := g1
  replace g3 : w2.cell? ⟨b, o + 18 + 3, none⟩ = some (.slice (some ⟨b3, o3, none⟩) 1 t3) := g3
  replace g5 : w2.cell? ⟨b, o + 18 + 5, none⟩ = some (.string ⟨#[97, 110, 115, 40, 120, 41, 32, 58, 45, 32, 114, 40, 120, 44, 32, 121, 41]⟩) := g5
  replace i0 : w2.cell? ⟨b3, o3, none⟩ = some (.int .i64 (-1)) := i0
  have j4 : w2.cell? ⟨b, o + 10, none⟩ = some (.slice R1 2 r1) := f4
  have j1 : w2.cell? ⟨b, o + 19, none⟩ = some (.int .i64 8) := g1
  have j3 : w2.cell? ⟨b, o + 21, none⟩ = some (.slice (some ⟨b3, o3, none⟩) 1 t3) := g3
  have j5 : w2.cell? ⟨b, o + 23, none⟩ = some (.string ⟨#[97, 110, 115, 40, 120, 41, 32, 58, 45, 32, 114, 40, 120, 44, 32, 121, 41]⟩) := g5
  have hlr : sxR.length = 2 := rfl
  simp only [hlr] at H6
  have HB2 := hid b2
  clear hcs hci gi gc fr fc H4 H5 b2 hlr HCm
  go_wp2_with fail
  refine H6.out.mono ?_
  rintro e w3 ⟨rfl, b3'⟩
  have K3 := hid (K2.out.trans (b3'.mono K2.out.size))
  clear H6 b3'
  go_wp2
  go_ret
  exact ⟨by kernel_rfl, K3.out⟩
end

/-! ### Sk17 -/
section
open Go.RowKit

set_option maxRecDepth 100000 in
set_option maxHeartbeats 4000000 in
theorem law_same (n1 n2 : Int) (c : Cm) (T1 R1 T2 R2 : Option Addr) (t1 r1 t2 r2 : Nat) (w : World) (h1 : CmAt w T1 t1 R1 r1 c) (h2 : CmAt w T2 t2 R2 r2 c) (hn : c.nums.length ≤ 70000) (hr : c.row.length ≤ 70000) :
    Calls Tryz.prog 14 #[.agg (cmA n1 c (.slice T1 c.nums.length t1) (.slice R1 c.row.length r1)), .agg (cmA n2 c (.slice T2 c.nums.length t2) (.slice R2 c.row.length r2))] w fun e w' => e = .returned (.bool true) ∧ Below w.heap.size w w' := by
  obtain ⟨W, hW⟩ : ∃ W, ((w.alloc (.cells (cmA n1 c (.slice T1 c.nums.length t1) (.slice R1 c.row.length r1)) 35)).alloc (.cells (cmA n2 c (.slice T2 c.nums.length t2) (.slice R2 c.row.length r2)) 35)) = W := ⟨_, rfl⟩
  have hb1 : W.heap[w.heap.size]? = some (.cells (cmA n1 c (.slice T1 c.nums.length t1) (.slice R1 c.row.length r1)) 35) := by
    rw [← hW, Below.heap_alloc _ _ _ (by simp)]; exact heap_alloc_new w _
  have hb2 : W.heap[w.heap.size + 1]? = some (.cells (cmA n2 c (.slice T2 c.nums.length t2) (.slice R2 c.row.length r2)) 35) := by
    rw [← hW]
    have := heap_alloc_new (w.alloc (.cells (cmA n1 c (.slice T1 c.nums.length t1) (.slice R1 c.row.length r1)) 35)) (.cells (cmA n2 c (.slice T2 c.nums.length t2) (.slice R2 c.row.length r2)) 35)
    rw [World.size_alloc] at this; exact this
  have kb : Below w.heap.size w W := by rw [← hW]; exact below_two w _ _
  have HW0 := hid hW
  obtain ⟨A, hA⟩ : ∃ A : ByteArray, (⟨c.name.toArray⟩ : ByteArray) = A := ⟨_, rfl⟩
  obtain ⟨Q, hQ⟩ : ∃ A : ByteArray, (⟨c.query.toArray⟩ : ByteArray) = A := ⟨_, rfl⟩
  have HEq := hid (fun V (ra : RowAt V R1 c.row) (rb : RowAt V R2 c.row) => row_equal R1 R2 r1 r2 c.row c.row V (x := true) (decide_eq_true (rowCmp_zero.2 rfl)) ra rb (by omega) (by omega))
  have H1 := hid (h1.below kb)
  have H2 := hid (h2.below kb)
  have HB1 := hid hb1
  have HB2 := hid hb2
  have KB := hid kb
  have hsz : w.heap.size + 2 ≤ W.heap.size := by have := lt_of_block hb2; omega
  show Calls _ _ #[.agg #[.int .i64 n1, .int .i64 c.op, .string ⟨c.name.toArray⟩, .slice T1 c.nums.length t1, .slice R1 c.row.length r1, .string ⟨c.query.toArray⟩], .agg #[.int .i64 n2, .int .i64 c.op, .string ⟨c.name.toArray⟩, .slice T2 c.nums.length t2, .slice R2 c.row.length r2, .string ⟨c.query.toArray⟩]] _ _
  have hcell : ∀ V, Below W.heap.size W V → (V.cell? ⟨w.heap.size, 1, none⟩ = some (.int .i64 c.op) ∧ V.cell? ⟨w.heap.size, 2, none⟩ = some (.string A) ∧ V.cell? ⟨w.heap.size, 3, none⟩ = some (.slice T1 c.nums.length t1) ∧ V.cell? ⟨w.heap.size, 4, none⟩ = some (.slice R1 c.row.length r1) ∧ V.cell? ⟨w.heap.size, 5, none⟩ = some (.string Q)) ∧ (V.cell? ⟨w.heap.size + 1, 1, none⟩ = some (.int .i64 c.op) ∧ V.cell? ⟨w.heap.size + 1, 2, none⟩ = some (.string A) ∧ V.cell? ⟨w.heap.size + 1, 3, none⟩ = some (.slice T2 c.nums.length t2) ∧ V.cell? ⟨w.heap.size + 1, 4, none⟩ = some (.slice R2 c.row.length r2) ∧ V.cell? ⟨w.heap.size + 1, 5, none⟩ = some (.string Q)) := fun V hV => by
    have g1 := (hV.block _ (lt_of_block HB1.out)).trans HB1.out
    have g2 := (hV.block _ (lt_of_block HB2.out)).trans HB2.out
    rw [← hA, ← hQ]
    exact ⟨⟨box_cell g1 1, box_cell g1 2, box_cell g1 3, box_cell g1 4, box_cell g1 5⟩, ⟨box_cell g2 1, box_cell g2 2, box_cell g2 3, box_cell g2 4, box_cell g2 5⟩⟩
  have HCe := hid hcell
  obtain ⟨⟨x1, x2, x3, x4, x5⟩, ⟨y1, y2, y3, y4, y5⟩⟩ := hcell W (Below.refl _ _)
  rw [hA, hQ]
  have HW : Hid (((w.alloc (.cells #[.int .i64 n1, .int .i64 c.op, .string A, .slice T1 c.nums.length t1, .slice R1 c.row.length r1, .string Q] 35)).alloc (.cells #[.int .i64 n2, .int .i64 c.op, .string A, .slice T2 c.nums.length t2, .slice R2 c.row.length r2, .string Q] 35)) = W) := hid (by rw [← hA, ← hQ]; exact HW0.out)
  have eA : (A.toList == A.toList) = true := by simp
  have eA2 : (A.toList != A.toList) = false := by simp
  have eQ2 : (Q.toList != Q.toList) = false := by simp
  clear h1 h2 hb1 hb2 kb hW hA hQ hcell HW0
  have HE1 := hid (HEq.out W H1.out.row H2.out.row)
  clear HEq
  go_enter Tryz.func14, Tryz.ntmps14
  go_wp2_with (first | rw [HW.out] | fail)
  refine HE1.out.mono ?_
  rintro e w1 ⟨rfl, b1⟩
  have HB := hid b1
  clear HE1 HW b1 x1 x2 x3 x4 x5 y1 y2 y3 y4 y5
  obtain ⟨⟨x1, x2, x3, x4, x5⟩, ⟨y1, y2, y3, y4, y5⟩⟩ := HCe.out w1 HB.out
  go_wp2
  go_loopw [5] (fun i wr => ∃ (k : Nat), k ≤ c.nums.length ∧ i = .int .i64 k ∧ Hid (Below W.heap.size W wr)) (fun i _ => c.nums.length - (intOf i).toNat)
  case atStart => exact ⟨0, by omega, rfl, HB⟩
  case round =>
    obtain ⟨k, hk, rfl, HK⟩ := hrel
    clear x1 x2 x3 x4 x5 y1 y2 y3 y4 y5 HB
    obtain ⟨⟨x1, x2, x3, x4, x5⟩, ⟨y1, y2, y3, y4, y5⟩⟩ := HCe.out wr HK.out
    by_cases hlt : k < c.nums.length
    · obtain ⟨b1, p1, rfl, g1⟩ := (H1.out.below HK.out).ints (by omega)
      obtain ⟨b2, p2, rfl, g2⟩ := (H2.out.below HK.out).ints (by omega)
      have d1 := g1 k hlt
      have d2 := g2 k hlt
      generalize c.nums[k] = nk at *
      have i1 : (nk != nk) = false := by simp
      have i2 : (0 : Int) ≤ k := by omega
      have i3 : (k : Int) < (c.nums.length : Int) := by omega
      have HK2 := hid (fun j => HK.out.trans (below_drewN (Below.refl wr.heap.size wr) j |>.mono HK.out.size))
      clear g1 g2 HCe H1 H2
      go_wp2_with fail
      go_quiet (fail)
      go_wp2
      go_roundw
      case rel => exact ⟨k + 1, by omega, by go_num, hid (HK2.out _)⟩
      case measure => simp [intOf]; omega
    · have KB2 := hid (KB.out.trans (HK.out.mono KB.out.size))
      clear HCe H1 H2 HK KB
      go_wp2
      go_ret
      exact ⟨rfl, KB2.out⟩

/-- The names, as the document has them. -/
def NamG (w : World) (g : Nat) : Prop := ∀ k (h : k < 20), w.cell? ⟨g, k, none⟩ = some (.string (namB[k]'h))
theorem NamG.below {w w' : World} {g : Nat} (h : NamG w g) (hb : Below w.heap.size w w') : NamG w' g := fun k hk => cell_keep hb (h k hk)
set_option maxRecDepth 100000 in
set_option maxHeartbeats 4000000 in
theorem names60 (w : World) : Calls Tryz.prog 11 #[] w fun e w' => e = .returned (.slice (some ⟨w.heap.size, 0, none⟩) 20 20) ∧ NamG w' w.heap.size ∧ Below w.heap.size w w' := by
  obtain ⟨W, hW⟩ : ∃ W, w.alloc (.cells #[.string ⟨#[115, 99, 104, 101, 109, 97]⟩, .string ⟨#[105, 110, 115, 101, 114, 116]⟩, .string ⟨#[100, 101, 108, 101, 116, 101]⟩, .string ⟨#[99, 111, 109, 109, 105, 116]⟩, .string ⟨#[108, 111, 103]⟩, .string ⟨#[99, 104, 101, 99, 107, 112, 111, 105, 110, 116]⟩, .string ⟨#[99, 114, 97, 115, 104]⟩, .string ⟨#[114, 101, 99, 111, 118, 101, 114]⟩, .string ⟨#[111, 112, 101, 110]⟩, .string ⟨#[102, 101, 116, 99, 104]⟩, .string ⟨#[115, 101, 101, 107]⟩, .string ⟨#[102, 105, 110, 100]⟩, .string ⟨#[99, 108, 111, 115, 101]⟩, .string ⟨#[99, 111, 117, 110, 116]⟩, .string ⟨#[113, 117, 97, 110, 116, 105, 108, 101]⟩, .string ⟨#[115, 97, 109, 112, 108, 101]⟩, .string ⟨#[100, 105, 102, 102]⟩, .string ⟨#[101, 120, 112, 108, 97, 105, 110]⟩, .string ⟨#[119, 104, 121]⟩, .string ⟨#[97, 117, 100, 105, 116]⟩] 9) = W := ⟨_, rfl⟩
  have hb : W.heap[w.heap.size]? = some (.cells #[.string ⟨#[115, 99, 104, 101, 109, 97]⟩, .string ⟨#[105, 110, 115, 101, 114, 116]⟩, .string ⟨#[100, 101, 108, 101, 116, 101]⟩, .string ⟨#[99, 111, 109, 109, 105, 116]⟩, .string ⟨#[108, 111, 103]⟩, .string ⟨#[99, 104, 101, 99, 107, 112, 111, 105, 110, 116]⟩, .string ⟨#[99, 114, 97, 115, 104]⟩, .string ⟨#[114, 101, 99, 111, 118, 101, 114]⟩, .string ⟨#[111, 112, 101, 110]⟩, .string ⟨#[102, 101, 116, 99, 104]⟩, .string ⟨#[115, 101, 101, 107]⟩, .string ⟨#[102, 105, 110, 100]⟩, .string ⟨#[99, 108, 111, 115, 101]⟩, .string ⟨#[99, 111, 117, 110, 116]⟩, .string ⟨#[113, 117, 97, 110, 116, 105, 108, 101]⟩, .string ⟨#[115, 97, 109, 112, 108, 101]⟩, .string ⟨#[100, 105, 102, 102]⟩, .string ⟨#[101, 120, 112, 108, 97, 105, 110]⟩, .string ⟨#[119, 104, 121]⟩, .string ⟨#[97, 117, 100, 105, 116]⟩] 9) := by rw [← hW]; exact heap_alloc_new w _
  have HN : Hid (NamG W w.heap.size) := hid (fun k hk => by
    rw [box_cell hb]
    obtain rfl | rfl | rfl | rfl | rfl | rfl | rfl | rfl | rfl | rfl | rfl | rfl | rfl | rfl | rfl | rfl | rfl | rfl | rfl | rfl : k = 0 ∨ k = 1 ∨ k = 2 ∨ k = 3 ∨ k = 4 ∨ k = 5 ∨ k = 6 ∨ k = 7 ∨ k = 8 ∨ k = 9 ∨ k = 10 ∨ k = 11 ∨ k = 12 ∨ k = 13 ∨ k = 14 ∨ k = 15 ∨ k = 16 ∨ k = 17 ∨ k = 18 ∨ k = 19 := by omega
    all_goals rfl)
  have KB := hid (show Below w.heap.size w W by rw [← hW]; exact below_one w _)
  have HW := hid hW
  clear hb hW
  go_enter Tryz.func11, Tryz.ntmps11
  go_wp2_with (first | rw [HW.out] | fail)
  go_ret
  exact ⟨rfl, HN.out, KB.out⟩
end
end Go.Proofs.YtjhnopnppimnhaaGreatDoor
