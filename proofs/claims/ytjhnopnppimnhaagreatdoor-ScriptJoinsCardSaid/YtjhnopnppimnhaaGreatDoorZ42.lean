/-
  PARTS of a claim, merged by segs.py: Laid3, Laid6, Sk15, Sk22, Sk23.
-/
import Derived.Test.YtjhnopnppimnhaaGreatDoorZ41
import Derived.Test.YtjhnopnppimnhaaGreatDoorZ16
import Derived.Test.YtjhnopnppimnhaaGreatDoorZ17
import Derived.Test.YtjhnopnppimnhaaGreatDoorZ36
import Derived.Test.YtjhnopnppimnhaaGreatDoorZ40
import Derived.IntWalk
import Derived.Laws.OwnMore
namespace Go.Proofs.YtjhnopnppimnhaaGreatDoor

/-! ### Laid3 -/
section
open Go.ChangeShapes Go.WideShapes Go.ChangeAt Go.RowKit Go.Deep

theorem gSym : Tryz.prog.globalNamed "ordinal/lexer.symbols" = some 3 := by kernel_rfl
theorem gSymType : (Tryz.prog.globals[3]?).map (·.type) = some 170 := by kernel_rfl
theorem cellsStr : Tryz.prog.cellsOf 9 = 1 := by kernel_rfl
theorem cellsSym : Tryz.prog.cellsOf 170 = 12 := by kernel_rfl
theorem symData_eq : (Rows.laid_ordinal_lexer_symbols : DataW Unit) = .agg (symB.map fun b => .lit (.string b.data.toList)) := by kernel_rfl

theorem sym_of_laid {l : List (String × DataW Unit)} {W : World} (hm : ("ordinal/lexer.symbols", Rows.laid_ordinal_lexer_symbols) ∈ l) (hp : (l.all fun x => x.2.handleName?.isNone) = true) (h : laidMetH Tryz.prog l W) : SymAt W := by
  rw [MakeChecks.laidMetH_plain _ _ _ hp] at h
  obtain ⟨ps, hv, _⟩ := h
  obtain ⟨g, t, cs, fuel, p, h1, h2, h3, h4⟩ := laidVars_reads hv _ _ hm
  obtain rfl := Option.some.inj (gSym.symm.trans h1)
  obtain rfl := Option.some.inj (gSymType.symm.trans h2)
  rw [symData_eq] at h4
  obtain ⟨xs, m, _, hx, hcl, hxl, hf⟩ := DataW.trod_array Tryz.underlying170 h4
  rw [cellsSym] at hcl
  rw [cellsStr] at hf
  have hxs : xs.map (·.1) = symB.map fun b => (DataW.lit (.string b.data.toList) : DataW Unit) := by
    have := congrArg Prod.fst hx
    injection this with this
    exact this.symm
  intro j hj
  have hcj : W.cell? ⟨3, j, none⟩ = cs[j]? := World.var?_cell gSym h3 j
  rw [hcj]
  have e1 := hf j hj
  rw [Nat.mul_one] at e1
  have hjl : j < cs.toList.length := by rw [hcl]; exact hj
  have e2 : (cs.toList.drop j).take 1 = [cs.toList[j]] := by
    rw [List.drop_eq_getElem_cons hjl]; rfl
  rw [e2, List.getElem?_eq_getElem (by rw [hxl]; exact hj)] at e1
  obtain ⟨s, es, ex, _⟩ := DataW.trod_string Tryz.underlying9 e1
  injection es with es
  have ey : (xs.map (·.1))[j]? = some (DataW.lit (.string s.data.toList) : DataW Unit) := by
    rw [List.getElem?_map, List.getElem?_eq_getElem (by rw [hxl]; exact hj), ex]; rfl
  rw [hxs, List.getElem?_map, List.getElem?_eq_getElem (show j < symB.length from hj)] at ey
  have ez : (symB[j]'hj).data.toList = s.data.toList := by
    simp only [Option.map_some, Option.some.injEq] at ey
    injection ey with ey
    injection ey
  have hs : s = symB[j]'hj := ByteArray.ext (Array.toList_inj.1 ez.symm)
  rw [← hs, ← es]
  simp [Array.getElem?_eq_getElem (show j < cs.size by simpa using hjl)]

theorem envL_of_laid {l r : List (String × DataW Unit)} {W : World} {a b c d : String × DataW Unit} (hl : l = a :: b :: c :: d :: r) (hd : d = ("strconv.ErrRange", Rows.laid_strconv_ErrRange)) (hm : ("internal/strconv.uint64pow10", Rows.laid_internal_strconv_uint64pow10) ∈ l) (hm2 : ("ordinal/lexer.symbols", Rows.laid_ordinal_lexer_symbols) ∈ l) (hp : (l.all fun x => x.2.handleName?.isNone) = true) (h : laidMetH Tryz.prog l W) : EnvL W := by
  refine ⟨⟨tab_of_laid hm hp h, ?_⟩, sym_of_laid hm2 hp h⟩
  rw [MakeChecks.laidMetH_plain _ _ _ hp] at h
  subst hl hd
  obtain ⟨a0, s0, hv, _⟩ := laid_sentinel h.tail.tail.tail gErr gErrType Tryz.underlying57 nameErr Tryz.underlying206 Tryz.underlying208 rfl rfl Tryz.underlying9 (by kernel_rfl) (by kernel_rfl)
  exact ⟨_, _, by simpa using World.var?_cell gErr hv 0⟩

set_option maxRecDepth 100000 in
theorem open_u8 {H : Type} {enc : TypeId × Value → H} {w W : World} {base b0 : Nat} {sp : Nat → Bool} {held : Bool} {r : Reach} {n : Nat} {v : Value} {x : DataW H × List MemPlace} {t : TypeId} (ht : Tryz.prog.underlying t = some (.int .u8)) (hok : Value.okWide Tryz.prog W r b0 t v)
    (h : DataW.trod enc Tryz.prog w base sp held n t v.cells.toList = some x) : ∃ k : Nat, v = .int .u8 k ∧ k < 256 := by
  obtain ⟨k, rfl⟩ := okWide_int ht hok
  obtain ⟨k', e, _, hw⟩ := DataW.trod_int ht h
  simp [Value.cells] at e
  subst e
  simp [Lit.wf, IntKind.min, IntKind.max, IntKind.signed, IntKind.bits] at hw
  exact ⟨k.toNat, by rw [Int.toNat_of_nonneg (by omega)], by omega⟩

/-- A start for the witness: the symbols too. -/
def layStrs (d : DataW Unit) : Obj → Obj
  | .cells _ t frozen => .cells (match d with | .agg l => (l.map fun | .lit (.string b) => Value.string ⟨b.toArray⟩ | _ => undef).toArray | _ => #[]) t frozen
  | o => o
noncomputable def laidWorldL (os : Os) : World := { laidWorldE os with heap := (laidWorldE os).heap.modify 3 (layStrs Rows.laid_ordinal_lexer_symbols) }
end

/-! ### Laid6 -/
section
open Go.ChangeShapes Go.WideShapes Go.ChangeAt Go.RowKit Go.Deep

theorem gNam : Tryz.prog.globalNamed "ordinal/script.names" = some 0 := by kernel_rfl
theorem gNamType : (Tryz.prog.globals[0]?).map (·.type) = some 62 := by kernel_rfl
theorem cellsNam : Tryz.prog.cellsOf 62 = 20 := by kernel_rfl
theorem namData_eq : (Rows.laid_ordinal_script_names : DataW Unit) = .agg (namB.map fun b => .lit (.string b.data.toList)) := by kernel_rfl
theorem var_block {P : Program} {w : World} {n : String} {g : Nat} {cs : Array Value} (hg : P.globalNamed n = some g) (h : w.var? P n = some cs) : ∃ t fr, w.heap[g]? = some (.cells cs t fr) := by
  unfold World.var? at h
  rw [hg] at h
  simp only [Option.bind_some] at h
  cases hq : w.heap[g]? with
  | none => rw [hq] at h; cases h
  | some o =>
    rw [hq] at h
    cases o with
    | cells c t fr => injection h with h; subst h; exact ⟨t, fr, rfl⟩
    | _ => cases h
theorem nam_of_laid {l : List (String × DataW Unit)} {W : World} (hm : ("ordinal/script.names", Rows.laid_ordinal_script_names) ∈ l) (hp : (l.all fun x => x.2.handleName?.isNone) = true) (h : laidMetH Tryz.prog l W) : NamAt W := by
  rw [MakeChecks.laidMetH_plain _ _ _ hp] at h
  obtain ⟨ps, hv, _⟩ := h
  obtain ⟨g, t, cs, fuel, p, h1, h2, h3, h4⟩ := laidVars_reads hv _ _ hm
  obtain rfl := Option.some.inj (gNam.symm.trans h1)
  obtain rfl := Option.some.inj (gNamType.symm.trans h2)
  rw [namData_eq] at h4
  obtain ⟨xs, m, _, hx, hcl, hxl, hf⟩ := DataW.trod_array Tryz.underlying62 h4
  rw [cellsNam] at hcl
  rw [cellsStr] at hf
  have hxs : xs.map (·.1) = namB.map fun b => (DataW.lit (.string b.data.toList) : DataW Unit) := by
    have := congrArg Prod.fst hx
    injection this with this
    exact this.symm
  obtain ⟨t, fr, hblk⟩ := var_block gNam h3
  refine ⟨cs, t, fr, hblk, by simpa using hcl, fun j hj => ?_⟩
  have e1 := hf j hj
  rw [Nat.mul_one] at e1
  have hjl : j < cs.toList.length := by rw [hcl]; exact hj
  have e2 : (cs.toList.drop j).take 1 = [cs.toList[j]] := by
    rw [List.drop_eq_getElem_cons hjl]; rfl
  rw [e2, List.getElem?_eq_getElem (by rw [hxl]; exact hj)] at e1
  obtain ⟨s, es, ex, _⟩ := DataW.trod_string Tryz.underlying9 e1
  injection es with es
  have ey : (xs.map (·.1))[j]? = some (DataW.lit (.string s.data.toList) : DataW Unit) := by
    rw [List.getElem?_map, List.getElem?_eq_getElem (by rw [hxl]; exact hj), ex]; rfl
  rw [hxs, List.getElem?_map, List.getElem?_eq_getElem (show j < namB.length from hj)] at ey
  have ez : (namB[j]'hj).data.toList = s.data.toList := by
    simp only [Option.map_some, Option.some.injEq] at ey
    injection ey with ey
    injection ey
  have hs : s = namB[j]'hj := ByteArray.ext (Array.toList_inj.1 ez.symm)
  rw [← hs, ← es]
  simp [Array.getElem?_eq_getElem (show j < cs.size by simpa using hjl)]
theorem envS_of_laid {l r : List (String × DataW Unit)} {W : World} {a b c d : String × DataW Unit} (hl : l = a :: b :: c :: d :: r) (hd : d = ("strconv.ErrRange", Rows.laid_strconv_ErrRange)) (hm : ("internal/strconv.uint64pow10", Rows.laid_internal_strconv_uint64pow10) ∈ l) (hm2 : ("ordinal/lexer.symbols", Rows.laid_ordinal_lexer_symbols) ∈ l) (hm3 : ("ordinal/script.names", Rows.laid_ordinal_script_names) ∈ l) (hp : (l.all fun x => x.2.handleName?.isNone) = true) (h : laidMetH Tryz.prog l W) : EnvS W :=
  ⟨envL_of_laid hl hd hm hm2 hp h, nam_of_laid hm3 hp h⟩
noncomputable def laidWorldS (os : Os) : World := { laidWorldL os with heap := (laidWorldL os).heap.modify 0 (layStrs Rows.laid_ordinal_script_names) }
end

/-! ### Sk15 -/
section
open Go.RowKit

set_option maxRecDepth 100000 in
set_option maxHeartbeats 2000000 in
theorem law_lines (s : ByteArray) (w : World) (hs : s.size ≤ 100000) {X : List Str} (hx : splitL s.data.toList = X) :
    Calls Tryz.prog 9 #[.string s] w (RetStrs w X) := by
  obtain ⟨i0, hi, hz0, hz1, hz2⟩ := info_parts infoStr
  have hll := len_b s
  have HX : Hid ([] ++ linGo [] (s.data.toList.drop 0) = X) := hid (by rw [← hx]; exact linGo_nil _)
  have hown0 := own_one w []
  have k0 := below_one w (.cells #[strV' []] 9)
  clear hx
  go_enter Tryz.func9, Tryz.ntmps9
  go_wp2
  go_loopw [3, 4] (fun v i wr => ∃ (k g cap : Nat) (ps : List Str) (cur : Str), k ≤ s.size ∧ i = .int .i64 k ∧ v = .slice (some ⟨g, 0, none⟩) (ps.length + 1) cap ∧ wr.ownsRow w.heap.size 9 1 (.slice (some ⟨g, 0, none⟩) (ps.length + 1) cap) (ps.length + 1) ((ps ++ [cur]).map strV') ∧ ps.length ≤ k ∧ cur.length ≤ k ∧ Hid (ps ++ linGo cur (s.data.toList.drop k) = X) ∧ Below w.heap.size w wr) (fun _ i _ => s.size - (intOf i).toNat)
  case atStart => exact ⟨0, w.heap.size, 1, [], [], by omega, rfl, rfl, hown0, by simp, by simp, HX, k0⟩
  case round =>
    obtain ⟨k, g, cap, ps, cur, hk, rfl, rfl, hown, hpl, hcl, HK, hbel⟩ := hrel
    clear HX hown0 k0
    by_cases hlt : k < s.size
    · have hlt' : k < s.data.toList.length := by omega
      have eL : ((ps.length : Int) + 1 - 1).toNat = ps.length := by omega
      have hA : (k : Int) + 1 ≤ s.size := by omega
      have hB : (k : Int) ≤ (k : Int) + 1 := by omega
      have eN : ((k : Int) + 1).toNat = k + 1 := by omega
      have c0 : wr.cell? ⟨g, ps.length, none⟩ = some (.string ⟨cur.toArray⟩) := by
        rw [hown.cellAt ps.length (by simp)]
        rw [List.getElem?_map, List.getElem?_append_right (Nat.le_refl _)]; simp [strV']
      obtain ⟨CU, hCU⟩ : ∃ CU : ByteArray, CU = ⟨cur.toArray⟩ := ⟨_, rfl⟩
      have hCs : CU.size ≤ 100000 := by rw [hCU]; simp [ByteArray.size]; omega
      rw [← hCU] at c0
      have HCU := hid hCU
      obtain ⟨c, hc⟩ : ∃ c, s.data.toList[k] = c := ⟨_, rfl⟩
      have hc' : s[k] = c := hc
      have hcat := cat_one hlt' hc cur
      have W1 : IntKind.i64.wrap ((ps.length : Int) + 1 - 1) = ps.length := by rw [IntWalk.i64_in _ (by omega)]; omega
      have W3 : IntKind.i64.wrap (ps.length : Int) = ps.length := IntWalk.i64_in _ (by omega)
      have WS : ¬ 9223372036854775807 < CU.size + (min (k + 1) s.size - k) := by omega
      have W4 : (0 : Int) ≤ ps.length := by omega
      have W5 : (ps.length : Int) < (ps.length : Int) + 1 := by omega
      have W2 : IntKind.i64.wrap ((k : Int) + 1) = k + 1 := IntWalk.i64_in _ (by omega)
      rw [← hCU] at hcat
      have HCAT := hid hcat
      have hcp : ps.length + 1 ≤ cap := by
        obtain ⟨g', cap', e1, _, e2⟩ := own_slice hown
        injection e1 with _ _ e3
        omega
      clear hCU hcat
      by_cases h10 : c = 10
      · have HN : Hid ((ps ++ [cur]) ++ linGo [] (s.data.toList.drop (k + 1)) = X) := hid (by rw [← HK.out, linGo_lf hlt' (hc.trans h10)]; simp)
        have h10' : s[k] = 10 := hc'.trans h10
        have b10 : ((s[k].toNat : Int) == 10) = true := by rw [h10']; rfl
        clear HK h10 h10' c0 HCU HCAT hcp W1 W2 W3 hc hc'
        go_wp2_with (at_builtin; refine wpList_append_new Tryz.underlying27 hi hz0 hz1 hz2 rfl (by decide) (by decide) rfl rfl rfl hown rfl rfl rfl (by omega) hbel.size ?_; intro v2 w2 hown2 hg2; obtain ⟨g2, cap2, rfl, hg3, hg4⟩ := own_slice hown2)
        go_roundw
        case rel => exact ⟨k + 1, g2, cap2, ps ++ [cur], [], by omega, by go_num, by simp, by simpa using own_snoc hown2, by simp; omega, by simp, HN, hbel.trans (grown_below hown hg2 hbel.size)⟩
        case measure => simp [intOf]; omega
      · have HN : Hid (ps ++ linGo (cur ++ [c]) (s.data.toList.drop (k + 1)) = X) := hid (by rw [← HK.out, linGo_on hlt' (by rw [hc]; exact h10), hc])
        have b10 : ((s[k].toNat : Int) == 10) = false := by rw [hc']; exact ne8 h10 rfl
        clear HK h10 hc hc'
        go_wp2_with fail
        go_still_tail 17, (by kernel_rfl)
        change wpList _ _ _ _ _ wr.drew
        have hown5 := hown.drew
        have hbel5 := hbel.drew
        have c5 : wr.drew.cell? ⟨g, ps.length, none⟩ = some (.string CU) := c0
        have hfz := hown5.frozenAt ps.length
        generalize wr.drew = w5 at *
        have hst := hown5.stored ps.length (strV' (cur ++ [c]))
        rw [set_last] at hst
        have HST := hid hst
        clear hst hown c0
        go_wp2_with fail
        go_roundw
        case rel => exact ⟨k + 1, g, cap, ps, cur ++ [c], by omega, by go_num, rfl, by rw [HCAT.out]; exact HST.out.1, by omega, by simp; omega, HN, by rw [HCAT.out]; exact hbel5.grown HST.out.2 hbel5.size (fun b hb => (hown5.lt b hb).1)⟩
        case measure => simp [intOf]; omega
    · have e : s.data.toList.drop k = [] := List.drop_eq_nil_of_le (by omega)
      have hxx := HK.out
      rw [e] at hxx
      have hX : X = ps ++ [cur] := by rw [← hxx]; rfl
      subst hX
      clear HK hxx e
      go_wp2
      go_ret
      exact ⟨_, rfl, by simpa using hown, hbel⟩
end

/-! ### Sk22 -/
section
open Go.RowKit

theorem strs_own {w : World} {B : Nat} {u : Value} {X : List Str} (h : w.ownsRow B 9 1 u X.length (X.map strV')) (hX : 0 < X.length) : ∃ b o c, u = .slice (some ⟨b, o, none⟩) X.length c ∧ X.length ≤ c ∧ ∀ k (hk : k < X.length), w.cell? ⟨b, o + k, none⟩ = some (.string ⟨X[k].toArray⟩) := by
  obtain ⟨n, hn⟩ : ∃ n, X.length = n + 1 := ⟨X.length - 1, by omega⟩
  rcases h.2 with ⟨_, h0⟩ | ⟨g, cap, cur, e, _, hh, hc, _, _, ht⟩
  · omega
  · refine ⟨g, 0, cap, e, hc, fun k hk => ?_⟩
    rw [box_cell hh, Nat.zero_add]
    rw [Nat.mul_one] at ht
    have h2 : (cur.toList.take X.length)[k]? = some (strV' X[k]) := by rw [ht, List.getElem?_map, List.getElem?_eq_getElem hk]; rfl
    rw [List.getElem?_take_of_lt hk] at h2
    simpa [strV'] using h2
theorem lines_take {L : List Str} {k : Nat} (h : k < L.length) : linesT (L.take (k + 1)) = linesT (L.take k) ++ (L[k] ++ [10]) := by
  unfold linesT
  rw [List.take_succ_eq_append_getElem h, List.flatMap_append]; simp
theorem cat3 (a b : Str) : (((⟨a.toArray⟩ : ByteArray) ++ ⟨b.toArray⟩) ++ ⟨#[10]⟩) = ⟨(a ++ (b ++ [10])).toArray⟩ := by
  apply ByteArray.ext
  apply Array.toList_inj.1
  simp [ByteArray.data_append]
theorem lines_le (L : List Str) (k m : Nat) (h : k ≤ m) : (linesT (L.take k)).length ≤ (linesT (L.take m)).length := by
  have e : L.take k = (L.take m).take k := by rw [List.take_take]; congr 1; omega
  have : linesT (L.take m) = linesT (L.take k) ++ linesT ((L.take m).drop k) := by
    rw [e]; unfold linesT; rw [← List.flatMap_append, List.take_append_drop]
  rw [this, List.length_append]; omega

set_option maxRecDepth 100000 in
set_option maxHeartbeats 8000000 in
theorem law_stops60 (s t : ByteArray) (w : World) (hE : EnvS w) : Calls Tryz.prog 4 #[.string s, .string t] w fun e w' => e = .returned (.bool true) ∧ Below w.heap.size w w' := by
  have HAw := hid (awake60 w hE)
  by_cases hs : 3000 < s.size ∨ 1000 < t.size
  · have hcase : (3000 : Int) < s.size ∨ (¬ (3000 : Int) < s.size ∧ (1000 : Int) < t.size) := by omega
    clear hE hs
    rcases hcase with h0 | ⟨h0, h1⟩
    all_goals
      go_enter Tryz.func4, Tryz.ntmps4
      go_wp2_with fail
      refine HAw.out.mono ?_
      rintro e w1 ⟨rfl, k1⟩
      clear HAw
      go_wp2
      go_ret
      exact ⟨rfl, k1⟩
  · have i1 : ¬ (3000 : Int) < s.size := by omega
    have i2 : ¬ (1000 : Int) < t.size := by omega
    have hs3 : s.size ≤ 3000 := by omega
    have ht1 : t.size ≤ 1000 := by omega
    obtain ⟨⟨cs, n, e⟩, hX⟩ : ∃ X, scriptS s.data.toList = X := ⟨_, rfl⟩
    have HP := hid (fun W (q : Below w.heap.size w W) => scr_parse s W (hE.below q) hX)
    have hls := len_b s
    have hlt := len_b t
    by_cases he : e = 0
    · subst he
      clear hX hls hlt hs hE
      go_enter Tryz.func4, Tryz.ntmps4
      go_wp2_with fail
      refine HAw.out.mono ?_
      rintro e w1 ⟨rfl, k1⟩
      have HP1 := hid (HP.out w1 k1)
      clear HAw HP
      go_wp2_with fail
      refine HP1.out.mono ?_
      rintro e w2 ⟨A2, c2, rfl, -, -, b2⟩
      have K2 := hid (k1.trans (b2.mono k1.size))
      clear HP1 b2
      go_wp2
      go_ret
      exact ⟨rfl, K2.out⟩
    · obtain ⟨p1, p2, p3, ⟨cs', p4⟩, p5⟩ := stops_plain (more := t.data.toList) hX he (by rw [hls]; exact hs3) (by rw [hlt]; exact ht1)
      have hb0 : (e == 0) = false := by simpa using he
      obtain ⟨L, hL⟩ : ∃ L, splitL s.data.toList = L := ⟨_, rfl⟩
      rw [hL] at p1 p3 p4 p5
      have HLi := hid (fun W => law_lines s W (by omega) hL)
      have hLl : L.length ≤ 3001 := by have := splitL_len s.data.toList; rw [hL, hls] at this; omega
      obtain ⟨m, rfl⟩ : ∃ m, n = m + 1 := ⟨n - 1, by omega⟩
      simp only [Nat.add_sub_cancel] at p3 p4 p5
      obtain ⟨H, hH⟩ : ∃ H : ByteArray, (⟨(linesT (L.take m)).toArray⟩ : ByteArray) = H := ⟨_, rfl⟩
      have hHl : H.data.toList = linesT (L.take m) := by rw [← hH]
      have HP2 := hid (fun W (q : Below w.heap.size w W) => scr_parse H W (hE.below q) (x := (cs', 0, 0)) (by rw [hHl]; exact p4))
      have hcs : cs = [] := by
        have := script_bad hX he (by rw [hls]; omega)
        obtain ⟨D, y, R, _, _, _, h4, _⟩ := this
        exact h4
      subst hcs
      have HTk := hid (fun k (h : k < L.length) => lines_take (L := L) h)
      have HLe := hid (fun k (h : k ≤ m) => Nat.le_trans (lines_le L k m h) p3)
      have HH := hid hH
      have HP5 := hid p5
      have HE := hid hE
      have h0L : 0 < L.length := by omega
      clear hX hH hHl p2 p3 p4 p5 hs hE hL hls hlt
      go_enter Tryz.func4, Tryz.ntmps4
      go_wp2_with fail
      refine HAw.out.mono ?_
      rintro e' w1 ⟨rfl, k1⟩
      have HP1 := hid (HP.out w1 k1)
      clear HAw HP
      go_wp2_with fail
      refine HP1.out.mono ?_
      rintro e' w2 ⟨A2, c2, rfl, -, -, b2⟩
      have K2 := hid (k1.trans (b2.mono k1.size))
      have HL2 := hid (HLi w2)
      clear HP1 b2 HLi k1
      go_wp2_with fail
      refine HL2.out.mono ?_
      rintro e' w3 ⟨v3, rfl, ho3, b3⟩
      have K3 := hid (K2.out.trans (b3.mono K2.out.size))
      obtain ⟨b, o, c, rfl, hc, hcells⟩ := strs_own ho3 h0L
      have HCe := hid hcells
      have HP3 := hid (HP2.out w3 K3.out)
      clear HL2 ho3 b3 hcells HP2
      go_wp2_with fail
      go_loop [9, 10] (fun h i => ∃ k : Nat, k ≤ m ∧ i = .int .i64 k ∧ h = .string ⟨(linesT (L.take k)).toArray⟩) (fun _ i => m - (intOf i).toNat)
      case atStart => exact ⟨0, by omega, rfl, rfl⟩
      case round =>
        obtain ⟨k, hk, rfl, rfl⟩ := hrel
        by_cases hkm : k < m
        · have hkL : k < L.length := by omega
          have c0 := HCe.out k hkL
          have h1 := HLe.out (k + 1) (by omega)
          rw [HTk.out k hkL, List.length_append, List.length_append] at h1
          have HC3 := hid (cat3 (linesT (L.take k)) L[k])
          have HT3 := hid (HTk.out k hkL)
          obtain ⟨X, hX⟩ : ∃ X : ByteArray, (⟨(linesT (L.take k)).toArray⟩ : ByteArray) = X := ⟨_, rfl⟩
          obtain ⟨Y, hY⟩ : ∃ X : ByteArray, (⟨L[k].toArray⟩ : ByteArray) = X := ⟨_, rfl⟩
          have hXs : X.size ≤ 3000 := by rw [← hX, size_l]; omega
          have hYs : Y.size ≤ 3000 := by rw [← hY, size_l]; omega
          rw [hX, hY] at HC3
          rw [hY] at c0
          rw [hX]
          have e1 : ¬ 9223372036854775807 < X.size + Y.size := by omega
          have e2 : ¬ 9223372036854775807 < X.size + Y.size + 1 := by omega
          clear h1 hX hY HLe HTk HCe HP3
          go_wp2_with fail
          go_round
          case rel => exact ⟨k + 1, by omega, by go_num, by rw [HC3.out, HT3.out]⟩
          case measure => simp [intOf]; omega
        · have hkm2 : k = m := by omega
          subst hkm2
          rw [HH.out]
          clear HTk
          go_wp2_with fail
          refine HP3.out.mono ?_
          rintro e' w4 ⟨A4, c4, rfl, -, -, b4⟩
          have K4 := hid (K3.out.trans (b4.mono K3.out.size))
          by_cases hlast : k + 1 < L.length
          · obtain ⟨y, hy, hyl, hsc⟩ := HP5.out hlast
            have c0 := cell_keep b4 (HCe.out k (by omega))
            rw [List.getElem?_eq_getElem (by omega)] at hy
            injection hy with hy
            rw [hy] at c0
            obtain ⟨Y, hY⟩ : ∃ X : ByteArray, (⟨y.toArray⟩ : ByteArray) = X := ⟨_, rfl⟩
            rw [hY] at c0
            simp only [List.length_append, List.length_cons] at hyl
            have hHs : H.size ≤ 4001 := by rw [← HH.out, size_l]; omega
            have hYs : Y.size ≤ 4001 := by rw [← hY, size_l]; omega
            have e1 : ¬ 9223372036854775807 < H.size + Y.size := by omega
            have e2 : ¬ 9223372036854775807 < H.size + Y.size + 1 := by omega
            have e3 : ¬ 9223372036854775807 < H.size + Y.size + 1 + t.size := by omega
            have HP6 := hid (scr_parse (((H ++ Y) ++ ⟨#[10]⟩) ++ t) w4 (HE.out.below K4.out) (x := ([], k + 1, e)) (by
              rw [← HH.out, ← hY, cat3, ByteArray.data_append, Array.toList_append]
              rw [← hsc]
              congr 1
              simp))
            have e5 : (e == e) = true := by simp
            have e6 : (k : Int) + 1 < L.length := by omega
            clear hy hY hyl hsc HP5 HP3 HLe HCe HH b4
            go_wp2_with fail
            refine HP6.out.mono ?_
            rintro e' w5 ⟨A5, c5, rfl, -, -, b5⟩
            have K5 := hid (K4.out.trans (b5.mono K4.out.size))
            clear HP6 b5
            go_wp2
            go_ret
            exact ⟨rfl, K5.out⟩
          · have hl2 : L.length = k + 1 := by omega
            have e6 : ¬ (k : Int) + 1 < L.length := by omega
            clear HP5 HP3 HLe HCe HH b4
            go_wp2
            go_ret
            exact ⟨rfl, K4.out⟩
end

/-! ### Sk23 -/
section
open Go.RowKit

theorem cms_ok {D : List Str} (hD : GoodL D) {k : Nat} (h : k < D.length) (hb : blankB D[k] = false) : textC (lineS D[k]).1 = D[k] ++ [10] ∧ CmOk (lineS D[k]).1 := good_line (hD _ (List.getElem_mem h)) hb
theorem cmds_le : ∀ (D : List Str) (n : Nat), (cmdsOf n D).length ≤ D.length
  | [], _ => by simp [cmdsOf]
  | y :: D, n => by
    rw [cmdsOf_cons, List.length_append]
    have := cmds_le D (n + 1)
    split <;> simp only [List.length_cons, List.length_nil] <;> omega

theorem cms_lit {W : World} {g n t r : Nat} {c : Cm} {T R : Option Addr} (h : W.heap[g]? = some (.cells (cmA n c (.slice T c.nums.length t) (.slice R c.row.length r)) 35)) (hc : CmAt W T t R r c) : CmsAt W (some ⟨g, 0, none⟩) [(n, c)] := fun _ => by
  refine ⟨g, 0, rfl, fun i hi => ?_⟩
  have : i = 0 := by simpa using hi
  subst this
  exact ⟨T, t, R, r, box_cell h 0, box_cell h 1, box_cell h 2, box_cell h 3, box_cell h 4, box_cell h 5, hc.ints, hc.ct, hc.row, hc.cr⟩

set_option maxRecDepth 100000 in
set_option maxHeartbeats 8000000 in
theorem law_texts60 (s : ByteArray) (w : World) (hE : EnvS w) : Calls Tryz.prog 3 #[.string s] w fun e w' => e = .returned (.bool true) ∧ Below w.heap.size w w' := by
  have HAw := hid (awake60 w hE)
  by_cases hs : 3000 < s.size
  · have h0 : (3000 : Int) < s.size := by omega
    clear hE hs
    go_enter Tryz.func3, Tryz.ntmps3
    go_wp2_with fail
    refine HAw.out.mono ?_
    rintro e w1 ⟨rfl, k1⟩
    clear HAw
    go_wp2
    go_ret
    exact ⟨rfl, k1⟩
  · have i1 : ¬ (3000 : Int) < s.size := by omega
    have hs3 : s.size ≤ 3000 := by omega
    obtain ⟨⟨cs, n, e⟩, hX⟩ : ∃ X, scriptS s.data.toList = X := ⟨_, rfl⟩
    have HP := hid (fun W (q : Below w.heap.size w W) => scr_parse s W (hE.below q) hX)
    have hls := len_b s
    obtain ⟨L, hL⟩ : ∃ L, splitL s.data.toList = L := ⟨_, rfl⟩
    have HLi := hid (fun W => law_lines s W (by omega) hL)
    have hLl : L.length ≤ 3001 := by have := splitL_len s.data.toList; rw [hL, hls] at this; omega
    have h0L : 0 < L.length := by have := splitL_ne s.data.toList; rw [hL] at this; exact List.length_pos_iff.2 this
    by_cases he : e = 0
    · subst he
      obtain ⟨D, d1, d2, d3, d4, d5, d6⟩ := script_ok hX
      rw [hL] at d1
      subst d5
      have hLD : L.length = D.length + 1 := by rw [d1]; simp
      have HGet := hid (fun k (h : k < D.length) (h' : k < L.length) => show L[k] = D[k] by simp only [d1]; exact List.getElem_append_left h)
      have HLast := hid (fun (h' : D.length < L.length) => show L[D.length] = [] by simp [d1])
      have HOk := hid (fun k (h : k < D.length) hb => cms_ok d3 h hb)
      have HAt := hid (fun k (h : k < D.length) hb => cmdsOf_at h hb)
      have HTk := hid (fun k (h : k < D.length) => cmdsOf_take h)
      have hcl : cs.length ≤ 3001 := by rw [d4]; have := cmds_le D 1; omega
      have HLen := hid (fun k (h : k < D.length) => show D[k].length ≤ 3000 by
        have h1 := congrArg List.length d2
        rw [hls] at h1
        have h2 := lines_take (L := D) h
        have h3 := lines_le D (k + 1) D.length (by omega)
        rw [List.take_length, ← h1, h2, List.length_append, List.length_append] at h3
        omega)
      have hDl : D.length ≤ 3001 := by omega
      have HCs := hid d4
      have HE := hid hE
      clear hX hs hE hL d1 d2 d3 d4 d6 hls
      go_enter Tryz.func3, Tryz.ntmps3
      go_wp2_with fail
      refine HAw.out.mono ?_
      rintro e' w1 ⟨rfl, k1⟩
      have HP1 := hid (HP.out w1 k1)
      clear HAw HP
      go_wp2_with fail
      refine HP1.out.mono ?_
      rintro e' w2 ⟨A2, c2, rfl, ho2, -, b2⟩
      obtain ⟨A', c', e1, hcm2, hcc⟩ := own_cms ho2
      injection e1 with e1 _ e2
      subst e1 e2
      have K2 := hid (k1.trans (b2.mono k1.size))
      have HL2 := hid (HLi w2)
      have HC2 := hid hcm2
      clear HP1 b2 HLi k1 hcm2 ho2
      go_wp2_with fail
      refine HL2.out.mono ?_
      rintro e' w3 ⟨v3, rfl, ho3, b3⟩
      have K3 := hid (K2.out.trans (b3.mono K2.out.size))
      obtain ⟨b, o, c, rfl, hc, hcells⟩ := strs_own ho3 h0L
      have HCe := hid hcells
      have HC3 := hid (HC2.out.below b3)
      clear HL2 ho3 b3 hcells HC2
      go_wp2_with fail
      go_loopw [7, 8] (fun a i wr => ∃ k : Nat, k ≤ D.length ∧ i = .int .i64 k ∧ a = .int .i64 (cmdsOf 1 (D.take k)).length ∧ Hid (Below w3.heap.size w3 wr)) (fun _ i _ => D.length - (intOf i).toNat)
      case atStart => exact ⟨0, by omega, rfl, rfl, hid (Below.refl _ _)⟩
      case round =>
        obtain ⟨k, hk, rfl, rfl, HK⟩ := hrel
        have KB := hid (K3.out.trans (HK.out.mono K3.out.size))
        by_cases hkD : k < D.length
        · have hkL : k < L.length := by omega
          have c0 := cell_keep HK.out (HCe.out k hkL)
          rw [HGet.out k hkD hkL] at c0
          have htk := HTk.out k hkD
          have hat := HAt.out k hkD
          have hok := HOk.out k hkD
          have hyl := HLen.out k hkD
          have i3 : (k : Int) < (L.length : Int) - 1 := by omega
          generalize D[k] = y at *
          obtain ⟨Y, hY⟩ : ∃ X : ByteArray, (⟨y.toArray⟩ : ByteArray) = X := ⟨_, rfl⟩
          have hYl : Y.data.toList = y := by rw [← hY]
          have hYs : Y.size ≤ 3000 := by rw [← hY, size_l]; exact hyl
          rw [hY] at c0
          obtain ⟨m, hm⟩ : ∃ m, (cmdsOf 1 (D.take k)).length = m := ⟨_, rfl⟩
          rw [hm] at hat ⊢
          have hm3 : m ≤ 3001 := by rw [← hm]; have := cmds_le (D.take k) 1; rw [List.length_take] at this; omega
          cases hb : blankB y with
          | true =>
            rw [hb, if_pos rfl, List.append_nil] at htk
            have HM : Hid ((cmdsOf 1 (D.take (k + 1))).length = m) := hid (by rw [htk]; exact hm)
            have hcase : Y.toList.isEmpty = true ∨ (Y.toList.isEmpty = false ∧ ∃ h : 0 < Y.size, (((Y[0]'h).toNat : Int) == 35) = true) := by
              rw [← hYl, blank_of] at hb
              cases hE0 : Y.toList.isEmpty with
              | true => exact .inl rfl
              | false =>
                right
                rw [hE0, Bool.false_or] at hb
                have hpos : 0 < Y.size := by
                  have h1 : Y.data.toList ≠ [] := by intro e; rw [Lib.toList_data, e] at hE0; cases hE0
                  have := List.length_pos_iff.2 h1; rw [len_b] at this; exact this
                refine ⟨rfl, hpos, ?_⟩
                rw [getD_of hpos] at hb
                rw [beq_iff_eq.1 hb]; rfl
            clear htk hat hok hyl hY hYl hm HTk HAt HOk HLen HGet HCe hb HC3 HCs HLast
            rcases hcase with hE0 | ⟨hE0, hpos, h35⟩
            all_goals
              go_wp2
              go_roundw
              case rel => exact ⟨k + 1, by omega, by go_num, by rw [HM.out], HK⟩
              case measure => simp [intOf]; omega
          | false =>
            have h2 := htk
            rw [hb, if_neg (by decide)] at h2
            have HM : Hid ((cmdsOf 1 (D.take (k + 1))).length = m + 1) := hid (by rw [h2, List.length_append, hm]; rfl)
            have hat2 := hat hb
            obtain ⟨htx, hcok⟩ := hok hb
            rw [← HCs.out] at hat2
            have hmc : m < cs.length := (List.getElem?_eq_some_iff.1 hat2).1
            rw [List.getElem?_eq_getElem hmc] at hat2
            injection hat2 with hat2
            obtain ⟨c, hcc⟩ : ∃ c, (lineS y).1 = c := ⟨_, rfl⟩
            rw [hcc] at hat2 htx hcok
            obtain ⟨bb, oo, rfl, hcs⟩ := (HC3.out.below HK.out) (by omega)
            obtain ⟨T, ct, R, cr, q0, q1, q2, q3, q4, q5, q6, q7, q8, q9⟩ := hcs m hmc
            rw [hat2] at q0 q1 q2 q3 q4 q5 q6 q7 q8 q9
            simp only at q0 q1 q2 q3 q4 q5 q6 q7 q8 q9
            have hbx := heap_alloc_new wr (.cells (cmA ((k + 1 : Nat) : Int) c (.slice T c.nums.length ct) (.slice R c.row.length cr)) 35)
            have kx := below_one wr (.cells (cmA ((k + 1 : Nat) : Int) c (.slice T c.nums.length ct) (.slice R c.row.length cr)) 35)
            have HKx := hid (KB.out.trans (kx.mono KB.out.size))
            have HPt := hid (scr_print (some ⟨wr.heap.size, 0, none⟩) 1 [(k + 1, c)] _ (HE.out.below HKx.out) (cms_lit hbx ⟨q6.below kx, q7, q8.below kx, q9⟩) (fun j hj => by
              have : j = 0 := by simpa using hj
              subst this; exact hcok) (by simp) (by show (textC c ++ []).length ≤ _; rw [htx]; simp; omega))
            have hYt : (⟨(textsC [(k + 1, c)]).toArray⟩ : ByteArray) = Y ++ ⟨#[10]⟩ := by
              show (⟨(textC c ++ []).toArray⟩ : ByteArray) = _
              rw [htx, ← hY]
              apply ByteArray.ext
              apply Array.toList_inj.1
              simp [ByteArray.data_append]
            rw [hYt] at HPt
            have hcell := cell_keep kx q0
            have hcY := cell_keep kx c0
            have hE0 : Y.toList.isEmpty = false ∧ ∃ h : 0 < Y.size, (((Y[0]'h).toNat : Int) == 35) = false := by
              rw [← hYl, blank_of, Bool.or_eq_false_iff] at hb
              have hpos : 0 < Y.size := by
                have h1 : Y.data.toList ≠ [] := by intro e; rw [Lib.toList_data, e] at hb; cases hb.1
                have := List.length_pos_iff.2 h1; rw [len_b] at this; exact this
              refine ⟨hb.1, hpos, ?_⟩
              have h2 := hb.2
              rw [getD_of hpos] at h2
              exact ne8 (beq_eq_false_iff_ne.1 h2) rfl
            obtain ⟨hE0, hpos, h35⟩ := hE0
            have hne2 : ((Y ++ (⟨#[10]⟩ : ByteArray)).toList != (Y ++ (⟨#[10]⟩ : ByteArray)).toList) = false := by simp
            have hne3 : (((k : Int) + 1) != ((k : Int) + 1)) = false := by simp
            have e1 : ¬ 9223372036854775807 < Y.size + 1 := by omega
            clear htk h2 hat hat2 hok hyl hY hYl hm HTk HAt HOk HLen HGet HCe hb HC3 HCs HLast htx hcok hcc hcs q6 q7 q8 q9 hYt hbx
            go_wp2_with fail
            refine HPt.out.mono ?_
            rintro e' w5 ⟨rfl, b5⟩
            have HK5 := hid (HK.out.trans ((kx.trans (b5.mono kx.size)).mono HK.out.size))
            replace hcell := cell_keep b5 hcell
            replace hcY := cell_keep b5 hcY
            clear HPt b5 c0 q0 q1 q2 q3 q4 q5 kx
            go_wp2
            go_roundw
            case rel => exact ⟨k + 1, by omega, by go_num, by rw [HM.out]; go_num, HK5⟩
            case measure => simp [intOf]; omega
        · have hkD2 : k = D.length := by omega
          subst hkD2
          rw [List.take_length, ← HCs.out]
          have i3 : ¬ (D.length : Int) < (L.length : Int) - 1 := by omega
          have c9 := cell_keep HK.out (HCe.out D.length (by omega))
          rw [HLast.out] at c9
          have i5 : (cs.length == cs.length) = true := by simp
          have i6 : ((cs.length : Int) == cs.length) = true := by simp
          have i7 : (L.length : Int) - 1 = D.length := by omega
          have i8 : ((L.length : Int) - 1).toNat = D.length := by omega
          clear HTk HAt HOk HLen HGet HCe HC3 HCs HLast
          go_wp2
          go_ret
          exact ⟨rfl, KB.out⟩
    · have hb0 : (e != 0) = true := by simpa using he
      obtain ⟨D, y, R, s1, s2, s3, rfl, rfl⟩ := script_bad hX he (by omega)
      have hn1 : 1 + D.length ≤ L.length := by rw [← hL, s1]; simp; omega
      have hn0 : 1 ≤ 1 + D.length := by omega
      have j1 : ((1 + D.length : Nat) : Int) = 1 + D.length := by omega
      clear s1 s2 s3 hX hs hL he hls hE
      generalize 1 + D.length = n at *
      have j2 : (1 : Int) ≤ n := by omega
      have j3 : (n : Int) ≤ L.length := by omega
      clear j1
      go_enter Tryz.func3, Tryz.ntmps3
      go_wp2_with fail
      refine HAw.out.mono ?_
      rintro e' w1 ⟨rfl, k1⟩
      have HP1 := hid (HP.out w1 k1)
      clear HAw HP
      go_wp2_with fail
      refine HP1.out.mono ?_
      rintro e' w2 ⟨A2, c2, rfl, -, -, b2⟩
      have K2 := hid (k1.trans (b2.mono k1.size))
      have HL2 := hid (HLi w2)
      clear HP1 b2 HLi k1
      go_wp2_with fail
      refine HL2.out.mono ?_
      rintro e' w3 ⟨v3, rfl, ho3, b3⟩
      have K3 := hid (K2.out.trans (b3.mono K2.out.size))
      obtain ⟨b, o, c, rfl, hc, -⟩ := strs_own ho3 h0L
      clear HL2 ho3 b3
      go_wp2
      go_ret
      exact ⟨rfl, K3.out⟩
end
end Go.Proofs.YtjhnopnppimnhaaGreatDoor
