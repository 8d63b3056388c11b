/-
  WALKS: value.Int, value.Str, value.parseStr.
-/
import Derived.Test.YtkoajdbijlpgaaaDoorUnq
import Derived.Test.YtkoajdbijlpgaaaDoorText
import Derived.Handy
namespace Go.Proofs.YtkoajdbijlpgaaaDoor
open Go.RowKit

/-- A call that returns a value and an error's number. -/
def RetV (w : World) (x : V × Int) (e : Ending) (w' : World) : Prop := e = .returned (.tuple #[.agg #[.int .i64 x.1.k, .int .i64 x.1.n, .string x.1.s], .int .i64 x.2]) ∧ Below w.heap.size w w'

theorem value_int (n : Int) (w : World) :
    Calls Tryd.prog 44 #[.int .i64 n] w fun e w' => e = .returned (.agg #[.int .i64 1, .int .i64 n, .string ⟨#[]⟩]) ∧ Below w.heap.size w w' := by
  go_enter Tryd.func44, Tryd.ntmps44
  go_wp2
  go_returns
  exact ⟨rfl, below_one _ _⟩

theorem str_clone (s : ByteArray) (w : World) (hs : s.size ≤ 100000) :
    Calls Tryd.prog 66 #[.string s] w fun e w' => e = .returned (.string s) ∧ Below w.heap.size w w' := by
  have HC := fun W => hid (Tryd.stringslite_Clone s W (by omega))
  go_enter Tryd.func66, Tryd.ntmps66
  go_wp2_with fail
  refine (HC _).out.mono ?_
  rintro e w1 ⟨rfl, k1⟩
  go_wp2
  go_ret
  exact ⟨rfl, k1⟩

/-- A store of a whole struct into the block that it lies in (a struct result). -/
theorem below_setRow (w : World) (g : Nat) (cs : Array Value) : Below g w (w.setRow g cs) :=
  ⟨rfl, rfl, rfl, by simp [World.setRow], fun k hk => setRow_other w g k cs (by omega)⟩

theorem wpList_store_res {P : Program} {w : World} {ops : Array Oper} {rest : List Oper} {o : Oper} {a : Act} {Q : Exit → Act → World → Prop} (hgd : o.guard = none) {ty : TypeId} {x y : Operand} (ho : o.op = .store ty x y)
    {g : Nat} {cells : Array Value} (hx : a.eval x = .pointer (some ⟨g, 0, none⟩)) (hy : a.eval y = .agg cells) {t : TypeId} {old : Array Value} (hz : w.heap[g]? = some (.cells old t))
    (hi : (P.info? ty).map (·.size) = some cells.size) (hold : old.size = cells.size) (h1 : cells.toList.all (·.oneCell') = true)
    (h : ∀ w', w'.heap[g]? = some (.cells cells t) → Below g w w' → wpList P ops Q rest (a.put o.dst undef) w') : wpList P ops Q (o :: rest) a w :=
  wpList_plain hgd fun _ hK => wp_store_row ty x y ho g cells hx hy t old hz hi hold (by simpa using h1) (hK _ _ (h _ (setRow_heap w g old cells t _ hz) (below_setRow w g cells)))

theorem res_at {w w' : World} {o : Obj} (h : Below (w.alloc o).heap.size (w.alloc o) w') : w'.heap[w.heap.size]? = some o := by
  rw [h.block _ (by simp)]; exact heap_alloc_new w o
theorem res_keep {w w' : World} {g B : Nat} {o : Obj} (hz : w.heap[g]? = some o) (h : Below B w w') (hg : g < B) : w'.heap[g]? = some o := by
  rw [h.block _ hg]; exact hz
theorem cell_res {w : World} {g : Nat} {cs : Array Value} {t : TypeId} (hz : w.heap[g]? = some (.cells cs t)) (k : Nat) : w.cell? ⟨g, k, none⟩ = cs[k]? := by
  simp [World.cell?, hz]

theorem infoVal : (Tryd.prog.info? 41).map (·.size) = some 3 := by kernel_rfl

theorem value_str (s : ByteArray) (w : World) (hs : s.size ≤ 100000) {x : V × Int} (hx : makeStr s.data.toList = x) :
    Calls Tryd.prog 40 #[.string s] w (RetV w x) := by
  unfold makeStr at hx
  have k0 := below_one w (.cells #[.int .i64 0, .int .i64 0, .string ⟨#[]⟩] 41)
  by_cases h : 24 < s.size
  · rw [if_pos (by simpa using h)] at hx
    subst hx
    go_enter Tryd.func40, Tryd.ntmps40
    go_wp2
    go_returns
    exact ⟨rfl, k0⟩
  · rw [if_neg (by simpa using h)] at hx
    subst hx
    have HC := fun W => hid (str_clone s W hs)
    go_enter Tryd.func40, Tryd.ntmps40
    go_wp2_with fail
    refine (HC _).out.mono ?_
    rintro e w1 ⟨rfl, b1⟩
    have hz := res_at b1
    have k1 := k0.trans (b1.mono k0.size)
    go_wp2_with (refine wpList_store_res rfl rfl rfl rfl hz infoVal rfl rfl ?_; intro w3 hz3 hb3)
    refine bodyPost_ret (by simp [results, Tryd.results40, go_sem, cell_res hz3]; rfl) rfl ?_
    exact ⟨rfl, k1.trans hb3⟩
theorem drop_extract (s : ByteArray) (k : Nat) : (s.extract k s.size).data.toList = s.data.toList.drop k := by
  simp only [ByteArray.data_extract, Array.toList_extract, List.extract]
  exact List.take_of_length_le (by simp)

theorem scan_end (l : List UInt8) : scan l [] = some (l, []) := by rw [scan, if_pos rfl]
theorem scan_stop {l t : List UInt8} {k : Nat} (h : k < t.length) (h' : t[k] = 34) : scan l (t.drop k) = some (l, t.drop k) := by
  rw [scan, if_neg (by simp; omega), if_pos (by rw [List.drop_eq_getElem_cons h]; exact h')]
theorem scan_bad {l t : List UInt8} {k n : Nat} {b : UInt8} (h : k < t.length) (h' : t[k] ≠ 34) (hu : unquoteL (t.drop k) = (b, n)) (hn : n = 0) : scan l (t.drop k) = none := by
  rw [scan, if_neg (by simp; omega), if_neg (by rw [List.drop_eq_getElem_cons h]; exact h'), hu, if_pos hn]
theorem scan_more {l t : List UInt8} {k n : Nat} {b : UInt8} (h : k < t.length) (h' : t[k] ≠ 34) (hu : unquoteL (t.drop k) = (b, n)) (hn : n ≠ 0) : scan l (t.drop k) = scan (l ++ [b]) (t.drop (k + n)) ∧ k + n ≤ t.length := by
  constructor
  · rw [scan, if_neg (by simp; omega), if_neg (by rw [List.drop_eq_getElem_cons h]; exact h'), hu, if_neg hn, List.drop_drop]
  · have := unquoteL_le (r := t.drop k) (by rw [List.drop_eq_getElem_cons h]; exact h') (by rw [hu]; exact hn)
    rw [hu, List.length_drop] at this
    simp only at this; omega

/-- How a scan ends. -/
def scanRes : Option (List UInt8 × List UInt8) → V × Int
  | none => (V0, 15)
  | some (o, t) => if t.length = 1 then makeStr o else (V0, 15)
theorem scanRes_some (o t : List UInt8) : scanRes (some (o, t)) = if t.length = 1 then makeStr o else (V0, 15) := rfl
theorem pStr_res (l : List UInt8) : pStr l = scanRes (scan [] l) := by
  unfold pStr scanRes
  cases scan [] l <;> rfl

set_option maxRecDepth 100000 in
set_option maxHeartbeats 1000000 in
theorem parse_str (s : ByteArray) (w : World) (h0 : 0 < s.size) (hs : s.size ≤ 100000) {x : V × Int} (hx : pStr (s.data.toList.drop 1) = x) :
    Calls Tryd.prog 73 #[.string s] w (RetV w x) := by
  obtain ⟨i0, hi, hz0, hz1, hz2⟩ := info_parts infoByte
  rw [pStr_res] at hx
  have HX := hid hx
  have k0 := below_one w (.cells #[.int .i64 0, .int .i64 0, .string ⟨#[]⟩] 41)
  clear hx
  go_enter Tryd.func73, Tryd.ntmps73
  go_wp2
  go_loopw [4, 5] (fun v i wr => ∃ (k : Nat) (l : List UInt8), 1 ≤ k ∧ k ≤ s.size ∧ i = .int .i64 k ∧ wr.ownsRow (w.heap.size + 1) 5 1 v l.length (Lib.byteCells l) ∧ l.length ≤ k ∧ Hid (scanRes (scan l (s.data.toList.drop k)) = x) ∧ Below (w.heap.size + 1) (w.alloc (.cells #[.int .i64 0, .int .i64 0, .string ⟨#[]⟩] 41)) wr) (fun _ i _ => s.size - (intOf i).toNat)
  case atStart => exact ⟨1, [], by omega, by omega, rfl, World.ownsRow_nil _ _ _ _, by simp, HX, Below.refl _ _⟩
  case round =>
    obtain ⟨k, l, hk1, hk, rfl, hown, hlen, HK, hbel⟩ := hrel
    clear HX
    have hz := res_keep (heap_alloc_new w _) hbel (by omega)
    have hsz : w.heap.size < wr.heap.size := by have := hbel.size; simp at this; omega
    have hbw : Below w.heap.size w wr := k0.trans (hbel.mono (by omega))
    by_cases hlt : k < s.size
    · by_cases h34 : s[k].toNat = 34
      · have hst := scan_stop (l := l) (t := s.data.toList) (k := k) (by simpa using hlt) (by have e : s[k] = 34 := UInt8.toNat.inj h34; exact e)
        rw [hst, scanRes_some] at HK
        have hl2 : (s.data.toList.drop k).length = s.size - k := by simp
        rw [hl2] at HK
        by_cases hend : k + 1 = s.size
        · rw [if_pos (by omega)] at HK
          have HS := fun W => hid (value_str ⟨l.toArray⟩ W (by simp [ByteArray.size]; omega) (x := x) HK.out)
          have hcv := run_own_to_string Tryd.underlying88 Tryd.underlying5 Tryd.underlying9 _ hown
          clear HK hst hl2
          go_wp2_with fail
          refine (HS _).out.mono ?_
          rintro e w2 ⟨rfl, b2⟩
          have hz2 := res_keep hz b2 hsz
          have hbw2 := hbw.trans (b2.mono (by omega))
          go_wp2_with (refine wpList_store_res rfl rfl rfl rfl hz2 infoVal rfl rfl ?_; intro w3 hz3 hb3)
          refine bodyPost_ret (by simp [results, Tryd.results73, go_sem, cell_res hz3]; rfl) rfl ?_
          exact ⟨rfl, hbw2.trans hb3⟩
        · rw [if_neg (by omega)] at HK
          have bend : ((k : Int) == (s.size : Int) - 1) = false := by simp; omega
          obtain rfl := HK.out
          clear HK hst hl2
          go_wp2_with (refine wpList_store_res rfl rfl rfl rfl hz infoVal rfl rfl ?_; intro w3 hz3 hb3)
          refine bodyPost_ret (by simp [results, Tryd.results73, go_sem, cell_res hz3]; rfl) rfl ?_
          exact ⟨rfl, hbw.trans hb3⟩
      · have b34 : ((s[k].toNat : Int) == 34) = false := by simp; omega
        have h34' : s.data.toList[k]'(by simpa using hlt) ≠ 34 := fun e => h34 (congrArg UInt8.toNat e)
        have HU := fun W b n (hu : unquoteL (s.data.toList.drop k) = (b, n)) => hid (unquote (s.extract k s.size) W (b := b) (n := n) (by simp; omega) (by rw [drop_extract]; exact hu))
        obtain ⟨⟨b, n⟩, hu⟩ : ∃ p, unquoteL (s.data.toList.drop k) = p := ⟨_, rfl⟩
        have HC := HU
        by_cases hn : n = 0
        · rw [scan_bad (by simpa using hlt) h34' hu hn] at HK
          obtain rfl := HK.out
          subst hn
          have HU2 := fun W => HU W b 0 hu
          clear HK HU HC hu h34'
          go_wp2_with fail
          refine (HU2 _).out.mono ?_
          rintro e w1 ⟨rfl, b1⟩
          have hz2 := res_keep hz b1 hsz
          have hbw2 := hbw.trans (b1.mono (by omega))
          clear HU2
          go_wp2_with (refine wpList_store_res rfl rfl rfl rfl hz2 infoVal rfl rfl ?_; intro w3 hz3 hb3)
          refine bodyPost_ret (by simp [results, Tryd.results73, go_sem, cell_res hz3]; rfl) rfl ?_
          exact ⟨rfl, hbw2.trans hb3⟩
        · obtain ⟨hsc, hle⟩ := scan_more (l := l) (by simpa using hlt) h34' hu hn
          rw [hsc] at HK
          have hle' : k + n ≤ s.size := by simpa using hle
          have bn : ((n : Int) == 0) = false := by simp; omega
          have HU2 := fun W => HU W b n hu
          clear HU HC hu h34' hsc hle
          go_wp2_with fail
          refine (HU2 _).out.mono ?_
          rintro e w1 ⟨rfl, b1⟩
          have hown1 := own_below hown b1
          have hbel1 := hbel.trans (b1.mono (by omega))
          have hs1 : w.heap.size + 1 ≤ w1.heap.size := by have := b1.size; omega
          clear HU2
          go_wp2_with (at_builtin; refine wpList_append_new Tryd.underlying88 hi hz0 hz1 hz2 rfl (by decide) (by decide) rfl rfl rfl hown1 rfl rfl rfl (by omega) hs1 ?_; intro v2 w2 hown2 hg2)
          go_roundw
          case rel => exact ⟨k + n, l ++ [b], by omega, hle', by go_num, byteCells_snoc _ _ _ rfl rfl hown2, by simp; omega, HK, hbel1.trans (grown_below hown1 hg2 hs1)⟩
          case measure => simp [intOf]; omega
    · have e : s.data.toList.drop k = [] := List.drop_eq_nil_of_le (by simp; omega)
      rw [e, scan_end] at HK
      obtain rfl : (V0, (15 : Int)) = x := HK.out
      have bend : ((k : Int) == (s.size : Int) - 1) = false := by simp; omega
      clear HK
      go_wp2_with (refine wpList_store_res rfl rfl rfl rfl hz infoVal rfl rfl ?_; intro w3 hz3 hb3)
      refine bodyPost_ret (by simp [results, Tryd.results73, go_sem, cell_res hz3]; rfl) rfl ?_
      exact ⟨rfl, hbw.trans hb3⟩
end Go.Proofs.YtkoajdbijlpgaaaDoor
