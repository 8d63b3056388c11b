/-
  PARTS of a claim, merged by segs.py: Pstr, Pint, Res, Coh, Lits, Rt1.
-/
import Derived.Test.YtjhnopnppimnhaaGreatDoorZ14
import Derived.Test.YtjhnopnppimnhaaGreatDoorZ07
import Derived.Test.YtjhnopnppimnhaaGreatDoorShelf2
import Derived.Handy
import Derived.Lib.SmallJoins
import Derived.OneCell
import Derived.Lib.Builder
namespace Go.Proofs.YtjhnopnppimnhaaGreatDoor

/-! ### Pstr -/
section
open Go.RowKit

/-- A call that returns a value and an error's number. -/
def RetV (w : World) (x : V × Int) (e : Ending) (w' : World) : Prop := e = .returned (.tuple #[.agg #[.int .i64 x.1.k, .int .i64 x.1.n, .string x.1.s], .int .i64 x.2]) ∧ Below w.heap.size w w'

theorem value_int (n : Int) (w : World) :
    Calls Tryz.prog 156 #[.int .i64 n] w fun e w' => e = .returned (.agg #[.int .i64 1, .int .i64 n, .string ⟨#[]⟩]) ∧ Below w.heap.size w w' := by
  go_enter Tryz.func156, Tryz.ntmps156
  go_wp2
  go_returns
  exact ⟨rfl, below_one _ _⟩

theorem str_clone (s : ByteArray) (w : World) (hs : s.size ≤ 100000) :
    Calls Tryz.prog 159 #[.string s] w fun e w' => e = .returned (.string s) ∧ Below w.heap.size w w' := by
  have HC := fun W => hid (Tryz.stringslite_Clone s W (by omega))
  go_enter Tryz.func159, Tryz.ntmps159
  go_wp2_with fail
  refine (HC _).out.mono ?_
  rintro e w1 ⟨rfl, k1⟩
  go_wp2
  go_ret
  exact ⟨rfl, k1⟩

/-- A store of a whole struct into the block that it lies in (a struct result). -/
theorem below_setRow (w : World) (g : Nat) (cs : Array Value) : Below g w (w.setRow g cs) :=
  ⟨rfl, rfl, rfl, by simp [World.setRow], fun k hk => setRow_other w g k cs (by omega)⟩

theorem wpList_store_res {P : Program} {w : World} {ops : Array Oper} {rest : List Oper} {o : Oper} {a : Act} {Q : Exit → Act → World → Prop} (hgd : o.guard = none) {ty : TypeId} {x y : Operand} (ho : o.op = .store ty x y)
    {g : Nat} {cells : Array Value} (hx : a.eval x = .pointer (some ⟨g, 0, none⟩)) (hy : a.eval y = .agg cells) {t : TypeId} {old : Array Value} (hz : w.heap[g]? = some (.cells old t))
    (hi : (P.info? ty).map (·.size) = some cells.size) (hold : old.size = cells.size) (h1 : cells.toList.all (·.oneCell') = true)
    (h : ∀ w', w'.heap[g]? = some (.cells cells t) → Below g w w' → wpList P ops Q rest (a.put o.dst undef) w') : wpList P ops Q (o :: rest) a w :=
  wpList_plain hgd fun _ hK => wp_store_row ty x y ho g cells hx hy t old hz hi hold (by simpa using h1) (hK _ _ (h _ (setRow_heap w g old cells t _ hz) (below_setRow w g cells)))

theorem res_at {w w' : World} {o : Obj} (h : Below (w.alloc o).heap.size (w.alloc o) w') : w'.heap[w.heap.size]? = some o := by
  rw [h.block _ (by simp)]; exact heap_alloc_new w o
theorem res_keep {w w' : World} {g B : Nat} {o : Obj} (hz : w.heap[g]? = some o) (h : Below B w w') (hg : g < B) : w'.heap[g]? = some o := by
  rw [h.block _ hg]; exact hz
theorem cell_res {w : World} {g : Nat} {cs : Array Value} {t : TypeId} (hz : w.heap[g]? = some (.cells cs t)) (k : Nat) : w.cell? ⟨g, k, none⟩ = cs[k]? := by
  simp [World.cell?, hz]

theorem infoVal : (Tryz.prog.info? 67).map (·.size) = some 3 := by kernel_rfl

theorem value_str (s : ByteArray) (w : World) (hs : s.size ≤ 100000) {x : V × Int} (hx : makeStr s.data.toList = x) :
    Calls Tryz.prog 155 #[.string s] w (RetV w x) := by
  unfold makeStr at hx
  have k0 := below_one w (.cells #[.int .i64 0, .int .i64 0, .string ⟨#[]⟩] 67)
  by_cases h : 24 < s.size
  · rw [if_pos (by simpa using h)] at hx
    subst hx
    go_enter Tryz.func155, Tryz.ntmps155
    go_wp2
    go_returns
    exact ⟨rfl, k0⟩
  · rw [if_neg (by simpa using h)] at hx
    subst hx
    have HC := fun W => hid (str_clone s W hs)
    go_enter Tryz.func155, Tryz.ntmps155
    go_wp2_with fail
    refine (HC _).out.mono ?_
    rintro e w1 ⟨rfl, b1⟩
    have hz := res_at b1
    have k1 := k0.trans (b1.mono k0.size)
    go_wp2_with (refine wpList_store_res rfl rfl rfl rfl hz infoVal rfl rfl ?_; intro w3 hz3 hb3)
    refine bodyPost_ret (by simp [results, Tryz.results155, go_sem, cell_res hz3]; rfl) rfl ?_
    exact ⟨rfl, k1.trans hb3⟩
theorem drop_extract (s : ByteArray) (k : Nat) : (s.extract k s.size).data.toList = s.data.toList.drop k := by
  simp only [ByteArray.data_extract, Array.toList_extract, List.extract]
  exact List.take_of_length_le (by simp)

theorem scan_end (l : List UInt8) : scan l [] = some (l, []) := by rw [scan, if_pos rfl]
theorem scan_stop {l t : List UInt8} {k : Nat} (h : k < t.length) (h' : t[k] = 34) : scan l (t.drop k) = some (l, t.drop k) := by
  rw [scan, if_neg (by simp; omega), if_pos (by rw [List.drop_eq_getElem_cons h]; exact h')]
theorem scan_bad {l t : List UInt8} {k n : Nat} {b : UInt8} (h : k < t.length) (h' : t[k] ≠ 34) (hu : unquoteL (t.drop k) = (b, n)) (hn : n = 0) : scan l (t.drop k) = none := by
  rw [scan, if_neg (by simp; omega), if_neg (by rw [List.drop_eq_getElem_cons h]; exact h'), hu, if_pos hn]
theorem scan_more {l t : List UInt8} {k n : Nat} {b : UInt8} (h : k < t.length) (h' : t[k] ≠ 34) (hu : unquoteL (t.drop k) = (b, n)) (hn : n ≠ 0) : scan l (t.drop k) = scan (l ++ [b]) (t.drop (k + n)) ∧ k + n ≤ t.length := by
  constructor
  · rw [scan, if_neg (by simp; omega), if_neg (by rw [List.drop_eq_getElem_cons h]; exact h'), hu, if_neg hn, List.drop_drop]
  · have := unquoteL_le (r := t.drop k) (by rw [List.drop_eq_getElem_cons h]; exact h') (by rw [hu]; exact hn)
    rw [hu, List.length_drop] at this
    simp only at this; omega

/-- How a scan ends. -/
def scanRes : Option (List UInt8 × List UInt8) → V × Int
  | none => (V0, 15)
  | some (o, t) => if t.length = 1 then makeStr o else (V0, 15)
theorem scanRes_some (o t : List UInt8) : scanRes (some (o, t)) = if t.length = 1 then makeStr o else (V0, 15) := rfl
theorem pStr_res (l : List UInt8) : pStr l = scanRes (scan [] l) := by
  unfold pStr scanRes
  cases scan [] l <;> rfl

set_option maxRecDepth 100000 in
set_option maxHeartbeats 1000000 in
theorem parse_str (s : ByteArray) (w : World) (h0 : 0 < s.size) (hs : s.size ≤ 100000) {x : V × Int} (hx : pStr (s.data.toList.drop 1) = x) :
    Calls Tryz.prog 141 #[.string s] w (RetV w x) := by
  obtain ⟨i0, hi, hz0, hz1, hz2⟩ := info_parts infoByte
  rw [pStr_res] at hx
  have HX := hid hx
  have k0 := below_one w (.cells #[.int .i64 0, .int .i64 0, .string ⟨#[]⟩] 67)
  clear hx
  go_enter Tryz.func141, Tryz.ntmps141
  go_wp2
  go_loopw [4, 5] (fun v i wr => ∃ (k : Nat) (l : List UInt8), 1 ≤ k ∧ k ≤ s.size ∧ i = .int .i64 k ∧ wr.ownsRow (w.heap.size + 1) 5 1 v l.length (Lib.byteCells l) ∧ l.length ≤ k ∧ Hid (scanRes (scan l (s.data.toList.drop k)) = x) ∧ Below (w.heap.size + 1) (w.alloc (.cells #[.int .i64 0, .int .i64 0, .string ⟨#[]⟩] 67)) wr) (fun _ i _ => s.size - (intOf i).toNat)
  case atStart => exact ⟨1, [], by omega, by omega, rfl, World.ownsRow_nil _ _ _ _, by simp, HX, Below.refl _ _⟩
  case round =>
    obtain ⟨k, l, hk1, hk, rfl, hown, hlen, HK, hbel⟩ := hrel
    clear HX
    have hz := res_keep (heap_alloc_new w _) hbel (by omega)
    have hsz : w.heap.size < wr.heap.size := by have := hbel.size; simp at this; omega
    have hbw : Below w.heap.size w wr := k0.trans (hbel.mono (by omega))
    by_cases hlt : k < s.size
    · by_cases h34 : s[k].toNat = 34
      · have hst := scan_stop (l := l) (t := s.data.toList) (k := k) (by simpa using hlt) (by have e : s[k] = 34 := UInt8.toNat.inj h34; exact e)
        rw [hst, scanRes_some] at HK
        have hl2 : (s.data.toList.drop k).length = s.size - k := by simp
        rw [hl2] at HK
        by_cases hend : k + 1 = s.size
        · rw [if_pos (by omega)] at HK
          have HS := fun W => hid (value_str ⟨l.toArray⟩ W (by simp [ByteArray.size]; omega) (x := x) HK.out)
          have hcv := run_own_to_string Tryz.underlying52 Tryz.underlying5 Tryz.underlying9 _ hown
          clear HK hst hl2
          go_wp2_with fail
          refine (HS _).out.mono ?_
          rintro e w2 ⟨rfl, b2⟩
          have hz2 := res_keep hz b2 hsz
          have hbw2 := hbw.trans (b2.mono (by omega))
          go_wp2_with (refine wpList_store_res rfl rfl rfl rfl hz2 infoVal rfl rfl ?_; intro w3 hz3 hb3)
          refine bodyPost_ret (by simp [results, Tryz.results141, go_sem, cell_res hz3]; rfl) rfl ?_
          exact ⟨rfl, hbw2.trans hb3⟩
        · rw [if_neg (by omega)] at HK
          have bend : ((k : Int) == (s.size : Int) - 1) = false := by simp; omega
          obtain rfl := HK.out
          clear HK hst hl2
          go_wp2_with (refine wpList_store_res rfl rfl rfl rfl hz infoVal rfl rfl ?_; intro w3 hz3 hb3)
          refine bodyPost_ret (by simp [results, Tryz.results141, go_sem, cell_res hz3]; rfl) rfl ?_
          exact ⟨rfl, hbw.trans hb3⟩
      · have b34 : ((s[k].toNat : Int) == 34) = false := by simp; omega
        have h34' : s.data.toList[k]'(by simpa using hlt) ≠ 34 := fun e => h34 (congrArg UInt8.toNat e)
        have HU := fun W b n (hu : unquoteL (s.data.toList.drop k) = (b, n)) => hid (unquote (s.extract k s.size) W (b := b) (n := n) (by simp; omega) (by rw [drop_extract]; exact hu))
        obtain ⟨⟨b, n⟩, hu⟩ : ∃ p, unquoteL (s.data.toList.drop k) = p := ⟨_, rfl⟩
        have HC := HU
        by_cases hn : n = 0
        · rw [scan_bad (by simpa using hlt) h34' hu hn] at HK
          obtain rfl := HK.out
          subst hn
          have HU2 := fun W => HU W b 0 hu
          clear HK HU HC hu h34'
          go_wp2_with fail
          refine (HU2 _).out.mono ?_
          rintro e w1 ⟨rfl, b1⟩
          have hz2 := res_keep hz b1 hsz
          have hbw2 := hbw.trans (b1.mono (by omega))
          clear HU2
          go_wp2_with (refine wpList_store_res rfl rfl rfl rfl hz2 infoVal rfl rfl ?_; intro w3 hz3 hb3)
          refine bodyPost_ret (by simp [results, Tryz.results141, go_sem, cell_res hz3]; rfl) rfl ?_
          exact ⟨rfl, hbw2.trans hb3⟩
        · obtain ⟨hsc, hle⟩ := scan_more (l := l) (by simpa using hlt) h34' hu hn
          rw [hsc] at HK
          have hle' : k + n ≤ s.size := by simpa using hle
          have bn : ((n : Int) == 0) = false := by simp; omega
          have HU2 := fun W => HU W b n hu
          clear HU HC hu h34' hsc hle
          go_wp2_with fail
          refine (HU2 _).out.mono ?_
          rintro e w1 ⟨rfl, b1⟩
          have hown1 := own_below hown b1
          have hbel1 := hbel.trans (b1.mono (by omega))
          have hs1 : w.heap.size + 1 ≤ w1.heap.size := by have := b1.size; omega
          clear HU2
          go_wp2_with (at_builtin; refine wpList_append_new Tryz.underlying52 hi hz0 hz1 hz2 rfl (by decide) (by decide) rfl rfl rfl hown1 rfl rfl rfl (by omega) hs1 ?_; intro v2 w2 hown2 hg2)
          go_roundw
          case rel => exact ⟨k + n, l ++ [b], by omega, hle', by go_num, byteCells_snoc _ _ _ rfl rfl hown2, by simp; omega, HK, hbel1.trans (grown_below hown1 hg2 hs1)⟩
          case measure => simp [intOf]; omega
    · have e : s.data.toList.drop k = [] := List.drop_eq_nil_of_le (by simp; omega)
      rw [e, scan_end] at HK
      obtain rfl : (V0, (15 : Int)) = x := HK.out
      have bend : ((k : Int) == (s.size : Int) - 1) = false := by simp; omega
      clear HK
      go_wp2_with (refine wpList_store_res rfl rfl rfl rfl hz infoVal rfl rfl ?_; intro w3 hz3 hb3)
      refine bodyPost_ret (by simp [results, Tryz.results141, go_sem, cell_res hz3]; rfl) rfl ?_
      exact ⟨rfl, hbw.trans hb3⟩
end

/-! ### Pint -/
section
open Go.RowKit

/-- The variable strconv.ErrRange holds an error. -/
def ErrAt (w : World) : Prop := ∃ te pe, w.cell? ⟨5, 0, none⟩ = some (.iface te pe)
theorem ErrAt.below {w w' : World} (h : ErrAt w) (hb : Below w.heap.size w w') : ErrAt w' := by
  obtain ⟨te, pe, h⟩ := h
  exact ⟨te, pe, by rw [hb.cell (p := ⟨5, 0, none⟩) (cell_lt h)]; exact h⟩

theorem trim_mag (l : List UInt8) : Lib.trimPrefix l [45] = magL l := by
  unfold Lib.trimPrefix magL negL Lib.hasPrefix
  match l with
  | [] => rfl
  | c :: r =>
    by_cases h : c = 45
    · subst h; rfl
    · have e : (c == 45) = false := by simpa using h
      have e' : ((45 : UInt8) == c) = false := by simpa using fun h' => h h'.symm
      have h2 : ¬ (45 : UInt8) = c := fun h' => h h'.symm
      simp [e, h2]

/-- strconv.ParseInt at a sign and digits. -/
theorem parse_int_lib (s : ByteArray) (w : World) (hs : s.size ≤ 100000) (he : ErrAt w) (hn : magL s.data.toList ≠ []) (hd : digs (magL s.data.toList) = true) :
    Calls Tryz.prog 60 #[.string s, .int .i64 10, .int .i64 64] w fun e w' =>
      ((topL s.data.toList < numVal (magL s.data.toList) → ∃ n t p, e = .returned (.tuple #[.int .i64 n, .iface t p])) ∧
       (¬ topL s.data.toList < numVal (magL s.data.toList) → e = .returned (.tuple #[.int .i64 (if negL s.data.toList = true then - (numVal (magL s.data.toList) : Int) else numVal (magL s.data.toList)), .nilIface]))) ∧ Below w.heap.size w w' := by
  have hp := parseI_eq hn hd
  by_cases h : topL s.data.toList < numVal (magL s.data.toList)
  · rw [if_pos h] at hp
    obtain ⟨te, pe, he⟩ := he
    refine (Tryz.strconv_ParseInt_10_at64_range s (by omega) hp _ w he (.inr ⟨te, pe, rfl⟩)).mono fun e w' ⟨N, h1, _, _, h4⟩ => ?_
    exact ⟨⟨fun _ => ⟨_, _, _, h1⟩, fun h' => absurd h h'⟩, h4⟩
  · rw [if_neg h] at hp
    refine (Tryz.strconv_ParseInt_10_at64_ok s (by omega) _ hp w).mono fun e w' ⟨h1, h2⟩ => ?_
    refine ⟨⟨fun h' => absurd h' h, fun _ => h1⟩, ?_⟩
    rcases h2 with rfl | ⟨t, rfl⟩
    · exact Below.refl _ _
    · exact Lib.bytesWorld_below _ _ _

theorem digs_step {d : List UInt8} {k : Nat} (h : k < d.length) (hd : isDig d[k]) : digs (d.drop k) = digs (d.drop (k + 1)) := by
  rw [List.drop_eq_getElem_cons h]; unfold digs; rw [List.all_cons]; simp only [hd, decide_true, Bool.true_and]
theorem digs_stop {d : List UInt8} {k : Nat} (h : k < d.length) (hd : ¬ isDig d[k]) : digs (d.drop k) = false := by
  rw [List.drop_eq_getElem_cons h]; unfold digs; rw [List.all_cons]; simp only [hd, decide_false, Bool.false_and]

/-- The second half of an integer literal's reading. -/
def pInt2 (l : List UInt8) : V × Int :=
  if digs (magL l) = false then (V0, 15) else if topL l < numVal (magL l) then (V0, 3) else (intV1 (if negL l = true then - (numVal (magL l) : Int) else numVal (magL l)), 0)
theorem pInt_1 {l : List UInt8} (h : magL l = [] ∨ ((magL l).getD 0 0 = 48 ∧ (1 < (magL l).length ∨ negL l = true))) : pInt l = (V0, 15) := by unfold pInt; rw [if_pos h]
theorem pInt_2 {l : List UInt8} (h : ¬ (magL l = [] ∨ ((magL l).getD 0 0 = 48 ∧ (1 < (magL l).length ∨ negL l = true)))) : pInt l = pInt2 l := by unfold pInt; rw [if_neg h]; rfl

theorem zero_iff {l : List UInt8} (h : (magL l).getD 0 0 = 48) (hn : magL l ≠ []) : (1 < (magL l).length ∨ negL l = true) ↔ l ≠ [48] := by
  unfold magL at *
  cases hl : negL l
  · simp only [hl, Bool.false_eq_true, if_false, or_false] at *
    constructor
    · intro h1 e; subst e; simp at h1
    · intro h1
      match l, hn with
      | [c], _ => simp at h; subst h; exact absurd rfl h1
      | _ :: _ :: _, _ => simp
  · simp only [or_true, true_iff]
    intro e; subst e; exact absurd hl (by decide)

set_option maxRecDepth 100000 in
set_option maxHeartbeats 1000000 in
theorem parse_int (s : ByteArray) (w : World) (hs : s.size ≤ 100000) (he : ErrAt w) {x : V × Int} (hx : pInt s.data.toList = x) :
    Calls Tryz.prog 142 #[.string s] w (RetV w x) := by
  obtain ⟨D, hD⟩ : ∃ D : ByteArray, D = ⟨(Lib.trimPrefix s.data.toList [45]).toArray⟩ := ⟨_, rfl⟩
  have HT : ∀ W, Hid (Calls Tryz.prog 76 #[.string s, .string ⟨#[45]⟩] W fun e w' => e = .returned (.string D) ∧ w' = W) := fun W => hid (by rw [hD]; exact Tryz.strings_TrimPrefix s ⟨#[45]⟩ W)
  have hDl : D.data.toList = magL s.data.toList := by rw [hD, ← trim_mag]
  have hsd : D.size ≤ s.size := by
    have h1 : D.data.toList.length = D.size := by simp
    have h2 : s.data.toList.length = s.size := by simp
    have h3 : (magL s.data.toList).length ≤ s.data.toList.length := by unfold magL; split <;> simp
    rw [← hDl] at h3; omega
  have k0 := below_one w (.cells #[.int .i64 0, .int .i64 0, .string ⟨#[]⟩] 67)
  have tl : ∀ B : ByteArray, B.toList = B.data.toList := fun B => Lib.toList_data _
  clear hD
  by_cases hn : magL s.data.toList = []
  · rw [pInt_1 (.inl hn)] at hx
    subst hx
    have eD : D.toList.isEmpty = true := by rw [tl, hDl, hn]; rfl
    clear hDl hn tl
    go_enter Tryz.func142, Tryz.ntmps142
    go_wp2_with fail
    refine (HT _).out.mono ?_
    rintro e w1 ⟨rfl, rfl⟩
    have hz := heap_alloc_new w (.cells #[.int .i64 0, .int .i64 0, .string ⟨#[]⟩] 67)
    go_wp2_with (refine wpList_store_res rfl rfl rfl rfl hz infoVal rfl rfl ?_; intro w3 hz3 hb3)
    refine bodyPost_ret (by simp [results, Tryz.results142, go_sem, cell_res hz3]; rfl) rfl ?_
    exact ⟨rfl, k0.trans hb3⟩
  · have eD : D.toList.isEmpty = false := by rw [tl, hDl]; simpa using hn
    have hpos : 0 < D.size := by
      have h1 : D.data.toList.length = D.size := by simp
      have := List.length_pos_iff.2 hn
      rw [← hDl] at this; omega
    have hg0 : (magL s.data.toList).getD 0 0 = D[0] := by rw [← hDl]; exact getD_of hpos
    by_cases hA : D[0].toNat = 48 ∧ s.toList ≠ [48]
    · have e48 : (magL s.data.toList).getD 0 0 = 48 := by rw [hg0]; exact UInt8.toNat.inj hA.1
      rw [pInt_1 (.inr ⟨e48, (zero_iff e48 hn).2 (by rw [← tl]; exact hA.2)⟩)] at hx
      subst hx
      have eS : (s.toList == [48]) = false := by simpa using hA.2
      have e0 := hA.1
      clear hDl hn tl hA hg0 e48
      go_enter Tryz.func142, Tryz.ntmps142
      go_wp2_with fail
      refine (HT _).out.mono ?_
      rintro e w1 ⟨rfl, rfl⟩
      have hz := heap_alloc_new w (.cells #[.int .i64 0, .int .i64 0, .string ⟨#[]⟩] 67)
      go_wp2_with (refine wpList_store_res rfl rfl rfl rfl hz infoVal rfl rfl ?_; intro w3 hz3 hb3)
      refine bodyPost_ret (by simp [results, Tryz.results142, go_sem, cell_res hz3]; rfl) rfl ?_
      exact ⟨rfl, k0.trans hb3⟩
    · rw [pInt_2 (fun h => h.elim hn fun ⟨h1, h2⟩ => hA ⟨by rw [← hg0, h1]; rfl, by rw [tl]; exact (zero_iff h1 hn).1 h2⟩)] at hx
      have hcase : (D[0].toNat = 48 ∧ (s.toList == [48]) = true) ∨ ((D[0].toNat : Int) == 48) = false := by
        by_cases h : D[0].toNat = 48
        · by_cases h' : s.toList = [48]
          · exact .inl ⟨h, by rw [h']; rfl⟩
          · exact absurd ⟨h, h'⟩ hA
        · right; simp; omega
      unfold pInt2 at hx
      have HP := fun W (h : Below w.heap.size w W) hd => hid (parse_int_lib s W hs (he.below h) hn hd)
      rw [← hDl] at hx
      have HX : Hid ((if digs (D.data.toList.drop 0) = false then (V0, 15) else if topL s.data.toList < numVal D.data.toList then (V0, 3) else (intV1 (if negL s.data.toList = true then - (numVal D.data.toList : Int) else numVal D.data.toList), (0 : Int))) = x) := hid hx
      rw [← hDl] at HP
      clear hx hA hn hg0 tl hDl
      generalize topL s.data.toList = T at *
      generalize (if negL s.data.toList = true then - (numVal D.data.toList : Int) else numVal D.data.toList) = R at *
      generalize numVal D.data.toList = N at *
      rcases hcase with ⟨e0, eS⟩ | e0
      all_goals
        go_enter Tryz.func142, Tryz.ntmps142
        go_wp2_with fail
        refine (HT _).out.mono ?_
        rintro e w1 ⟨rfl, rfl⟩
        clear HT
        go_wp2
        go_loopw [24] (fun i wr => ∃ (k : Nat), k ≤ D.size ∧ i = .int .i64 k ∧ Hid (digs (D.data.toList.drop k) = digs D.data.toList) ∧ Hid ((if digs (D.data.toList.drop k) = false then (V0, 15) else if T < N then (V0, 3) else (intV1 R, (0 : Int))) = x) ∧ Below (w.heap.size + 1) (w.alloc (.cells #[.int .i64 0, .int .i64 0, .string ⟨#[]⟩] 67)) wr) (fun i _ => D.size - (intOf i).toNat)
        case atStart => exact ⟨0, by omega, rfl, hid rfl, HX, Below.refl _ _⟩
        case round =>
          obtain ⟨k, hk, rfl, HD, HK, hbel⟩ := hrel
          clear HX
          have hz := res_keep (heap_alloc_new w _) hbel (by omega)
          have hsz : w.heap.size < wr.heap.size := by have := hbel.size; simp at this; omega
          have hbw : Below w.heap.size w wr := k0.trans (hbel.mono (by omega))
          by_cases hlt : k < D.size
          · have hlt' : k < D.data.toList.length := by simpa using hlt
            by_cases hdg : isDig D[k]
            · rw [digs_step hlt' hdg] at HK HD
              unfold isDig at hdg
              obtain ⟨g1, g2⟩ := hdg
              clear HP
              go_wp2
              go_roundw
              case rel => exact ⟨k + 1, by omega, by go_num, HD, HK, hbel⟩
              case measure => simp [intOf]; omega
            · rw [digs_stop hlt' hdg, if_pos rfl] at HK
              obtain rfl := HK.out
              unfold isDig at hdg
              have hq : D[k].toNat < 48 ∨ 57 < D[k].toNat := by omega
              clear HP HK hdg
              rcases hq with hq | hq
              all_goals
                go_wp2_with (refine wpList_store_res rfl rfl rfl rfl hz infoVal rfl rfl ?_; intro w3 hz3 hb3)
                refine bodyPost_ret (by simp [results, Tryz.results142, go_sem, cell_res hz3]; rfl) rfl ?_
                exact ⟨rfl, hbw.trans hb3⟩
          · have e : D.data.toList.drop k = [] := List.drop_eq_nil_of_le (by simp; omega)
            rw [e] at HD HK
            have hdd : digs D.data.toList = true := by rw [← HD.out]; rfl
            have HP2 := fun W (hb : Below w.heap.size w W) => hid (HP W hb hdd).out
            clear HD HP
            by_cases hTN : T < N
            · rw [if_neg (by simp [digs]), if_pos hTN] at HK
              obtain rfl := HK.out
              clear HK
              go_wp2_with fail
              refine (HP2 _ hbw).out.mono ?_
              rintro e w1 ⟨⟨he1, _⟩, b1⟩
              obtain ⟨n, t', p, rfl⟩ := he1 hTN
              have hz2 := res_keep hz b1 hsz
              have hbw2 := hbw.trans (b1.mono (by omega))
              clear HP2
              go_wp2_with (refine wpList_store_res rfl rfl rfl rfl hz2 infoVal rfl rfl ?_; intro w3 hz3 hb3)
              refine bodyPost_ret (by simp [results, Tryz.results142, go_sem, cell_res hz3]; rfl) rfl ?_
              exact ⟨rfl, hbw2.trans hb3⟩
            · rw [if_neg (by simp [digs]), if_neg hTN] at HK
              obtain rfl := HK.out
              clear HK
              go_wp2_with fail
              refine (HP2 _ hbw).out.mono ?_
              rintro e w1 ⟨⟨_, he2⟩, b1⟩
              obtain rfl := he2 hTN
              have hz2 := res_keep hz b1 hsz
              have hbw2 := hbw.trans (b1.mono (by omega))
              have HI := fun W => hid (value_int R W)
              clear HP2 he2
              go_wp2_with fail
              refine (HI _).out.mono ?_
              rintro e w2 ⟨rfl, b2⟩
              have hz2' := res_keep hz2 b2 (by have := b1.size; omega)
              have hbw2' := hbw2.trans (b2.mono (by have := b1.size; omega))
              go_wp2_with (refine wpList_store_res rfl rfl rfl rfl hz2' infoVal rfl rfl ?_; intro w3 hz3 hb3)
              refine bodyPost_ret (by simp [results, Tryz.results142, go_sem, cell_res hz3]; rfl) rfl ?_
              exact ⟨rfl, hbw2'.trans hb3⟩

theorem parse_lit (s : ByteArray) (w : World) (hs : s.size ≤ 100000) (he : ErrAt w) {x : V × Int} (hx : parseL s.data.toList = x) :
    Calls Tryz.prog 109 #[.string s] w (RetV w x) := by
  have k0 := below_one w (.cells #[.int .i64 0, .int .i64 0, .string ⟨#[]⟩] 67)
  have hz := heap_alloc_new w (.cells #[.int .i64 0, .int .i64 0, .string ⟨#[]⟩] 67)
  have tl : ∀ B : ByteArray, B.toList = B.data.toList := fun B => Lib.toList_data _
  unfold parseL at hx
  by_cases h0 : s.data.toList = []
  · rw [if_pos h0] at hx
    subst hx
    have eD : s.toList.isEmpty = true := by rw [tl, h0]; rfl
    clear tl h0
    go_enter Tryz.func109, Tryz.ntmps109
    go_wp2_with (refine wpList_store_res rfl rfl rfl rfl hz infoVal rfl rfl ?_; intro w3 hz3 hb3)
    refine bodyPost_ret (by simp [results, Tryz.results109, go_sem, cell_res hz3]; rfl) rfl ?_
    exact ⟨rfl, k0.trans hb3⟩
  · rw [if_neg h0] at hx
    have eD : s.toList.isEmpty = false := by rw [tl]; simpa using h0
    have hpos : 0 < s.size := by
      have h1 : s.data.toList.length = s.size := by simp
      have := List.length_pos_iff.2 h0
      omega
    rw [getD_of hpos] at hx
    by_cases h34 : s[0] = 34
    · rw [if_pos h34] at hx
      have e34 : s[0].toNat = 34 := by rw [h34]; rfl
      have HS := fun W => hid (parse_str s W hpos hs hx)
      clear tl h0 hx h34
      go_enter Tryz.func109, Tryz.ntmps109
      go_wp2_with fail
      refine (HS _).out.mono ?_
      rintro e w1 ⟨rfl, b1⟩
      have hz2 := res_keep hz b1 (by simp)
      have hbw := k0.trans (b1.mono (by simp))
      go_wp2_with (refine wpList_store_res rfl rfl rfl rfl hz2 infoVal rfl rfl ?_; intro w3 hz3 hb3)
      refine bodyPost_ret (by simp [results, Tryz.results109, go_sem, cell_res hz3]; rfl) rfl ?_
      exact ⟨rfl, hbw.trans hb3⟩
    · rw [if_neg h34] at hx
      have e34 : ((s[0].toNat : Int) == 34) = false := by
        have : s[0].toNat ≠ 34 := fun e => h34 (UInt8.toNat.inj e)
        simp; omega
      have HS := fun W (h : Below w.heap.size w W) => hid (parse_int s W hs (he.below h) hx)
      clear tl h0 hx h34
      go_enter Tryz.func109, Tryz.ntmps109
      go_wp2_with fail
      refine (HS _ k0).out.mono ?_
      rintro e w1 ⟨rfl, b1⟩
      have hz2 := res_keep hz b1 (by simp)
      have hbw := k0.trans (b1.mono (by simp))
      go_wp2_with (refine wpList_store_res rfl rfl rfl rfl hz2 infoVal rfl rfl ?_; intro w3 hz3 hb3)
      refine bodyPost_ret (by simp [results, Tryz.results109, go_sem, cell_res hz3]; rfl) rfl ?_
      exact ⟨rfl, hbw.trans hb3⟩
/-- What the chapter's laws ask of the world: the table of powers of ten, the variable strconv.ErrRange. -/
structure Env (w : World) : Prop where
  tab : Tab w
  err : ErrAt w
theorem Env.below {w w' : World} (h : Env w) (hb : Below w.heap.size w w') : Env w' := ⟨h.tab.below hb, h.err.below hb⟩

end

/-! ### Res -/
section
open Go.RowKit

/-- A store of a whole struct into the block that it lies in (a struct result). -/
theorem below_setRow' (w : World) (g : Nat) (cs : Array Value) : Below g w (w.setRow g cs) :=
  ⟨rfl, rfl, rfl, by simp [World.setRow], fun k hk => setRow_other w g k cs (by omega)⟩

theorem wpList_stored {P : Program} {w : World} {ops : Array Oper} {rest : List Oper} {o : Oper} {a : Act} {Q : Exit → Act → World → Prop} (hgd : o.guard = none) {ty : TypeId} {x y : Operand} (ho : o.op = .store ty x y)
    {g : Nat} {cells : Array Value} (hx : a.eval x = .pointer (some ⟨g, 0, none⟩)) (hy : a.eval y = .agg cells) {t : TypeId} {old : Array Value} (hz : w.heap[g]? = some (.cells old t))
    (hi : (P.info? ty).map (·.size) = some cells.size) (hold : old.size = cells.size) (h1 : cells.toList.all (·.oneCell') = true)
    (h : ∀ w', w'.heap[g]? = some (.cells cells t) → Below g w w' → wpList P ops Q rest (a.put o.dst undef) w') : wpList P ops Q (o :: rest) a w :=
  wpList_plain hgd fun _ hK => wp_store_row ty x y ho g cells hx hy t old hz hi hold (by simpa using h1) (hK _ _ (h _ (setRow_heap w g old cells t _ hz) (below_setRow' w g cells)))

theorem grown_setRow (w : World) (g : Nat) (cs : Array Value) : w.grownBy (w.setRow g cs) (some g) :=
  ⟨rfl, rfl, rfl, by simp [World.setRow], fun k _ hk => setRow_other w g k cs (fun e => hk (by rw [e]))⟩
theorem wpList_stored2 {P : Program} {w : World} {ops : Array Oper} {rest : List Oper} {o : Oper} {a : Act} {Q : Exit → Act → World → Prop} (hgd : o.guard = none) {ty : TypeId} {x y : Operand} (ho : o.op = .store ty x y)
    {g : Nat} {cells : Array Value} (hx : a.eval x = .pointer (some ⟨g, 0, none⟩)) (hy : a.eval y = .agg cells) {t : TypeId} {old : Array Value} (hz : w.heap[g]? = some (.cells old t))
    (hi : (P.info? ty).map (·.size) = some cells.size) (hold : old.size = cells.size) (h1 : cells.toList.all (·.oneCell') = true)
    (h : ∀ w', w'.heap[g]? = some (.cells cells t) → w.grownBy w' (some g) → wpList P ops Q rest (a.put o.dst undef) w') : wpList P ops Q (o :: rest) a w :=
  wpList_plain hgd fun _ hK => wp_store_row ty x y ho g cells hx hy t old hz hi hold (by simpa using h1) (hK _ _ (h _ (setRow_heap w g old cells t _ hz) (grown_setRow w g cells)))
theorem res_at' {w w' : World} {o : Obj} (h : Below (w.alloc o).heap.size (w.alloc o) w') : w'.heap[w.heap.size]? = some o := by
  rw [h.block _ (by simp)]; exact heap_alloc_new w o
theorem res_keep' {w w' : World} {g B : Nat} {o : Obj} (hz : w.heap[g]? = some o) (h : Below B w w') (hg : g < B) : w'.heap[g]? = some o := by
  rw [h.block _ hg]; exact hz
theorem cell_res' {w : World} {g : Nat} {cs : Array Value} {t : TypeId} (hz : w.heap[g]? = some (.cells cs t)) (k : Nat) : w.cell? ⟨g, k, none⟩ = cs[k]? := by
  simp [World.cell?, hz]


/-- A block that a call lays first, later. -/
theorem res_first {w w' : World} {o : Obj} (h : Below (w.heap.size + 1) (w.alloc o) w') : w'.heap[w.heap.size]? = some o := by
  rw [h.block _ (by omega)]; exact heap_alloc_new w o
end

/-! ### Coh -/
section
open Go.RowKit
theorem coh {w : World} {b o : Nat} {vs : Array Value} {e : TypeId} {fz : Nat × Nat} (h : w.heap[b]? = some (.cells vs e fz)) {v : Value} (hv : vs[o]? = some v) : w.cell? ⟨b, o, none⟩ = some v := by
  rw [Lib.cell_of_heap h]; exact hv
end

/-! ### Lits -/
section
open Go.RowKit

/-- 'string([]byte{..})' of a literal row. -/
theorem run_lit_str {P : Program} {src dst e : TypeId} (hs : P.underlying src = some (.slice e)) (he : P.underlying e = some (.int .u8)) (hd : P.underlying dst = some .string) (w : World) (l : List UInt8) (cs : Array Value) (hc : cs = (Lib.byteCells l).toArray) (n c : Nat) (hn : n = l.length) :
    (convert src dst (.slice (some ⟨w.heap.size, 0, none⟩) n c)).run P (w.alloc (.cells cs e)) = .ok (.string ⟨l.toArray⟩) (w.alloc (.cells cs e)) := by
  subst hc hn
  refine run_convert_bytes_back _ src dst e ⟨w.heap.size, 0, none⟩ c l hs he hd fun j hj => ?_
  have : Addr.add ⟨w.heap.size, 0, none⟩ j = ⟨w.heap.size, j, none⟩ := by unfold Addr.add; by_cases hj : j = 0 <;> simp [hj]
  rw [this, cell_res' (heap_alloc_new w _)]
  simp [Lib.byteCells, hj]

theorem lit1 (w : World) (c : UInt8) (x : Int) (hx : x = c.toNat) :
    (convert 52 9 (.slice (some ⟨w.heap.size, 0, none⟩) 1 1)).run Tryz.prog (w.alloc (.cells #[.int .u8 x] 5)) = .ok (.string ⟨#[c]⟩) (w.alloc (.cells #[.int .u8 x] 5)) := by
  subst hx
  exact run_lit_str Tryz.underlying52 Tryz.underlying5 Tryz.underlying9 w [c] _ rfl _ _ rfl
theorem lit2 (w : World) (c d : UInt8) (x y : Int) (hx : x = c.toNat) (hy : y = d.toNat) :
    (convert 52 9 (.slice (some ⟨w.heap.size, 0, none⟩) 2 2)).run Tryz.prog (w.alloc (.cells #[.int .u8 x, .int .u8 y] 5)) = .ok (.string ⟨#[c, d]⟩) (w.alloc (.cells #[.int .u8 x, .int .u8 y] 5)) := by
  subst hx hy
  exact run_lit_str Tryz.underlying52 Tryz.underlying5 Tryz.underlying9 w [c, d] _ rfl _ _ rfl

theorem ret_cat {a b x : List UInt8} (h : a ++ b = x) : Ending.returned (.string (⟨a.toArray⟩ ++ ⟨b.toArray⟩)) = .returned (.string ⟨x.toArray⟩) := by
  subst h
  exact congrArg (fun a => Ending.returned (.string a)) (ByteArray.ext (by simp [ByteArray.data_append]))
theorem str_cat (a b : List UInt8) : Value.string (⟨a.toArray⟩ ++ ⟨b.toArray⟩) = .string ⟨(a ++ b).toArray⟩ :=
  congrArg Value.string (ByteArray.ext (by simp [ByteArray.data_append]))

end

/-! ### Rt1 -/
section
open Go.RowKit

end
end Go.Proofs.YtjhnopnppimnhaaGreatDoor
