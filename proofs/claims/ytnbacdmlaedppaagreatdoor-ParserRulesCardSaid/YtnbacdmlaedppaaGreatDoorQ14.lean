/-
  PARTS of a claim, merged by segs.py: Unq, Pstr, Res, Coh, Lits.
-/
import Derived.Test.YtnbacdmlaedppaaGreatDoorQ02
import Derived.Test.YtnbacdmlaedppaaGreatDoorQ06
import Derived.Test.YtnbacdmlaedppaaGreatDoorQ07
import Derived.Handy
import Derived.OneCell
import Derived.Lib.Builder
namespace Go.Proofs.YtnbacdmlaedppaaGreatDoor

/-! ### Unq -/
section
open Go.RowKit

abbrev hexDigits : ByteArray := ⟨#[48, 49, 50, 51, 52, 53, 54, 55, 56, 57, 97, 98, 99, 100, 101, 102]⟩
def ixI (c : UInt8) : Int := match hexIx c with
  | some n => n
  | none => -1
theorem ixI_eq (c : UInt8) : Lib.indexByte hexDigits.data.toList c = ixI c := by
  have h : ∀ i : Fin 256, Lib.indexByte hexDigits.data.toList (UInt8.ofNat i.val) = ixI (UInt8.ofNat i.val) := by decide +kernel
  have := h ⟨c.toNat, c.toNat_lt⟩
  simpa using this

theorem hex_ix (c : UInt8) (w : World) {x : Int} (hx : ixI c = x) :
    Calls Tryz.prog 139 #[.string hexDigits, .int .u8 c.toNat] w fun e w' => e = .returned (.int .i64 x) ∧ Below w.heap.size w w' := by
  refine (Tryz.strings_IndexByte hexDigits c.toNat w).mono fun e w' ⟨h, h'⟩ => ?_
  subst h'
  refine ⟨?_, Below.refl _ _⟩
  rw [h, ← hx, ← ixI_eq]
  simp

theorem or_hex (a b : Nat) (ha : a < 16) (hb : b < 16) : bits .or .i64 ((a : Int) * 16) (b : Int) = (a * 16 + b : Nat) := by
  have h : ∀ a b : Fin 16, bits .or .i64 ((a.val : Int) * 16) (b.val : Int) = (a.val * 16 + b.val : Nat) := by decide +kernel
  exact h ⟨a, ha⟩ ⟨b, hb⟩

theorem getD_of {s : ByteArray} {k : Nat} (h : k < s.size) : s.data.toList.getD k 0 = s[k] := by
  rw [List.getD_eq_getElem?_getD, List.getElem?_eq_getElem (by simpa using h)]; rfl

set_option maxRecDepth 100000 in
set_option maxHeartbeats 1000000 in
theorem unhex (s : ByteArray) (w : World) {b : UInt8} {n : Nat} (hx : unhexL s.data.toList = (b, n)) :
    Calls Tryz.prog 128 #[.string s] w fun e w' => e = .returned (.tuple #[.int .u8 b.toNat, .int .i64 n]) ∧ Below w.heap.size w w' := by
  unfold unhexL at hx
  by_cases h4 : s.size < 4
  · rw [if_pos (by simpa using h4)] at hx
    injection hx with e1 e2
    subst e1 e2
    go_enter Tryz.func128, Tryz.ntmps128
    go_wp2
    go_ret2
    exact ⟨rfl, Below.refl _ _⟩
  · rw [if_neg (by simpa using h4), getD_of (show 2 < s.size by omega), getD_of (show 3 < s.size by omega)] at hx
    have H1 := fun x W (he : ixI s[2] = x) => hid (hex_ix s[2] W he)
    have H2 := fun x W (he : ixI s[3] = x) => hid (hex_ix s[3] W he)
    cases ha : hexIx s[2] with
    | none =>
      rw [ha] at hx
      injection hx with e1 e2
      subst e1 e2
      have HA := hid (show ixI s[2] = -1 by unfold ixI; rw [ha])
      go_enter Tryz.func128, Tryz.ntmps128
      go_wp2_with fail
      refine (H1 _ _ HA.out).out.mono ?_
      rintro e w1 ⟨rfl, k1⟩
      go_wp2_with fail
      refine (H2 _ _ rfl).out.mono ?_
      rintro e w2 ⟨rfl, k2⟩
      have k2' := k1.trans (k2.mono k1.size)
      clear k1 k2 H1 H2
      generalize ixI s[3] = y
      go_wp2
      all_goals
        go_ret2
        exact ⟨rfl, k2'⟩
    | some a =>
      rw [ha] at hx
      have HA := hid (show ixI s[2] = a by unfold ixI; rw [ha])
      have ha' := (hexIx_hexd _ _ ha).2
      cases hb : hexIx s[3] with
      | none =>
        rw [hb] at hx
        injection hx with e1 e2
        subst e1 e2
        have HB := hid (show ixI s[3] = -1 by unfold ixI; rw [hb])
        go_enter Tryz.func128, Tryz.ntmps128
        go_wp2_with fail
        refine (H1 _ _ HA.out).out.mono ?_
        rintro e w1 ⟨rfl, k1⟩
        go_wp2_with fail
        refine (H2 _ _ HB.out).out.mono ?_
        rintro e w2 ⟨rfl, k2⟩
        have k2' := k1.trans (k2.mono k1.size)
        clear k1 k2 H1 H2
        go_wp2
        all_goals
          go_ret2
          exact ⟨rfl, k2'⟩
      | some c =>
        rw [hb] at hx
        have HB := hid (show ixI s[3] = c by unfold ixI; rw [hb])
        have hc' := (hexIx_hexd _ _ hb).2
        have HO := or_hex a c ha' hc'
        have F1 := hid (show short (a * 16 + c) → b = 0 ∧ n = 0 from fun h => by simp only [if_pos h] at hx; injection hx with e1 e2; exact ⟨e1.symm, e2.symm⟩)
        have F2 := hid (show ¬ short (a * 16 + c) → (b.toNat : Int) = (a : Int) * 16 + c ∧ n = 4 from fun h => by
          simp only [if_neg h] at hx
          injection hx with e1 e2
          refine ⟨?_, e2.symm⟩
          rw [← e1]; simp; omega)
        clear hx ha hb
        have hq : ((a : Int) * 16 + c = 10) ∨ ((a : Int) * 16 + c = 9) ∨ (32 ≤ (a : Int) * 16 + c ∧ (a : Int) * 16 + c ≤ 126) ∨ ((a : Int) * 16 + c < 32 ∧ (a : Int) * 16 + c ≠ 10 ∧ (a : Int) * 16 + c ≠ 9) ∨ 126 < (a : Int) * 16 + c := by omega
        rcases hq with hq | hq | hq | hq | hq
        · obtain ⟨rfl, rfl⟩ := F1.out (by unfold short; omega)
          clear F1 F2
          go_enter Tryz.func128, Tryz.ntmps128
          go_wp2_with fail
          refine (H1 _ _ HA.out).out.mono ?_
          rintro e w1 ⟨rfl, k1⟩
          go_wp2_with fail
          refine (H2 _ _ HB.out).out.mono ?_
          rintro e w2 ⟨rfl, k2⟩
          have k2' := k1.trans (k2.mono k1.size)
          clear k1 k2 H1 H2
          go_wp2
          go_ret2
          exact ⟨rfl, k2'⟩
        · obtain ⟨rfl, rfl⟩ := F1.out (by unfold short; omega)
          clear F1 F2
          go_enter Tryz.func128, Tryz.ntmps128
          go_wp2_with fail
          refine (H1 _ _ HA.out).out.mono ?_
          rintro e w1 ⟨rfl, k1⟩
          go_wp2_with fail
          refine (H2 _ _ HB.out).out.mono ?_
          rintro e w2 ⟨rfl, k2⟩
          have k2' := k1.trans (k2.mono k1.size)
          clear k1 k2 H1 H2
          go_wp2
          go_ret2
          exact ⟨rfl, k2'⟩
        · obtain ⟨rfl, rfl⟩ := F1.out (by unfold short; omega)
          clear F1 F2
          have b10 : ((a : Int) * 16 + c == 10) = false := by simp; omega
          have b9 : ((a : Int) * 16 + c == 9) = false := by simp; omega
          go_enter Tryz.func128, Tryz.ntmps128
          go_wp2_with fail
          refine (H1 _ _ HA.out).out.mono ?_
          rintro e w1 ⟨rfl, k1⟩
          go_wp2_with fail
          refine (H2 _ _ HB.out).out.mono ?_
          rintro e w2 ⟨rfl, k2⟩
          have k2' := k1.trans (k2.mono k1.size)
          clear k1 k2 H1 H2
          go_wp2
          go_ret2
          exact ⟨rfl, k2'⟩
        · obtain ⟨e1, rfl⟩ := F2.out (by unfold short; omega)
          clear F1 F2
          have E1 := hid e1
          clear e1
          have b10 : ((a : Int) * 16 + c == 10) = false := by simp; omega
          have b9 : ((a : Int) * 16 + c == 9) = false := by simp; omega
          go_enter Tryz.func128, Tryz.ntmps128
          go_wp2_with fail
          refine (H1 _ _ HA.out).out.mono ?_
          rintro e w1 ⟨rfl, k1⟩
          go_wp2_with fail
          refine (H2 _ _ HB.out).out.mono ?_
          rintro e w2 ⟨rfl, k2⟩
          have k2' := k1.trans (k2.mono k1.size)
          clear k1 k2 H1 H2
          go_wp2
          go_ret2
          rw [E1.out]
          exact ⟨rfl, k2'⟩
        · obtain ⟨e1, rfl⟩ := F2.out (by unfold short; omega)
          clear F1 F2
          have E1 := hid e1
          clear e1
          have b10 : ((a : Int) * 16 + c == 10) = false := by simp; omega
          have b9 : ((a : Int) * 16 + c == 9) = false := by simp; omega
          go_enter Tryz.func128, Tryz.ntmps128
          go_wp2_with fail
          refine (H1 _ _ HA.out).out.mono ?_
          rintro e w1 ⟨rfl, k1⟩
          go_wp2_with fail
          refine (H2 _ _ HB.out).out.mono ?_
          rintro e w2 ⟨rfl, k2⟩
          have k2' := k1.trans (k2.mono k1.size)
          clear k1 k2 H1 H2
          go_wp2
          go_ret2
          rw [E1.out]
          exact ⟨rfl, k2'⟩

set_option maxRecDepth 100000 in
set_option maxHeartbeats 1000000 in
theorem unquote (s : ByteArray) (w : World) {b : UInt8} {n : Nat} (h0 : 0 < s.size) (hx : unquoteL s.data.toList = (b, n)) :
    Calls Tryz.prog 118 #[.string s] w fun e w' => e = .returned (.tuple #[.int .u8 b.toNat, .int .i64 n]) ∧ Below w.heap.size w w' := by
  have HU := hid (fun (h : unhexL s.data.toList = (b, n)) W => unhex s W h)
  unfold unquoteL at hx
  rw [getD_of h0] at hx
  by_cases h92 : s[0].toNat = 92
  · rw [if_neg (by simpa using h92)] at hx
    by_cases h2 : s.size < 2
    · rw [if_pos (by simpa using h2)] at hx
      injection hx with e1 e2
      subst e1 e2
      clear HU
      go_enter Tryz.func118, Tryz.ntmps118
      go_wp2
      all_goals
        go_ret2
        exact ⟨rfl, Below.refl _ _⟩
    · rw [if_neg (by simpa using h2), getD_of (show 1 < s.size by omega)] at hx
      have hb := s[1].toNat_lt
      by_cases c1 : s[1].toNat = 34 ∨ s[1].toNat = 92
      · rw [if_pos c1] at hx
        injection hx with e1 e2
        subst e2
        have E1 := hid (show (b.toNat : Int) = s[1].toNat by rw [← e1])
        clear HU e1
        rcases c1 with c1 | c1
        all_goals
          go_enter Tryz.func118, Tryz.ntmps118
          go_wp2
          go_ret2
          rw [E1.out, c1]
          exact ⟨rfl, Below.refl _ _⟩
      · rw [if_neg c1] at hx
        have b1 : ((s[1].toNat : Int) == 34) = false := by simp; omega
        have b2 : ((s[1].toNat : Int) == 92) = false := by simp; omega
        by_cases c2 : s[1].toNat = 110
        · rw [if_pos c2] at hx
          injection hx with e1 e2
          subst e1 e2
          clear HU
          go_enter Tryz.func118, Tryz.ntmps118
          go_wp2
          go_ret2
          exact ⟨rfl, Below.refl _ _⟩
        · rw [if_neg c2] at hx
          have b3 : ((s[1].toNat : Int) == 110) = false := by simp; omega
          by_cases c3 : s[1].toNat = 116
          · rw [if_pos c3] at hx
            injection hx with e1 e2
            subst e1 e2
            clear HU
            go_enter Tryz.func118, Tryz.ntmps118
            go_wp2
            go_ret2
            exact ⟨rfl, Below.refl _ _⟩
          · rw [if_neg c3] at hx
            have b4 : ((s[1].toNat : Int) == 116) = false := by simp; omega
            by_cases c4 : s[1].toNat = 120
            · rw [if_pos c4] at hx
              have HU2 := fun W => hid (HU.out hx W)
              clear HU hx
              go_enter Tryz.func118, Tryz.ntmps118
              go_wp2_with fail
              refine (HU2 _).out.mono ?_
              rintro e w1 ⟨rfl, k1⟩
              go_wp2
              go_ret2
              exact ⟨rfl, k1⟩
            · rw [if_neg c4] at hx
              have b5 : ((s[1].toNat : Int) == 120) = false := by simp; omega
              injection hx with e1 e2
              subst e1 e2
              clear HU
              go_enter Tryz.func118, Tryz.ntmps118
              go_wp2
              go_ret2
              exact ⟨rfl, Below.refl _ _⟩
  · rw [if_pos (by simpa using h92)] at hx
    have b0 : ((s[0].toNat : Int) == 92) = false := by simp; omega
    clear HU
    by_cases c1 : s[0].toNat < 32 ∨ 126 < s[0].toNat
    · rw [if_pos c1] at hx
      injection hx with e1 e2
      subst e1 e2
      rcases c1 with c1 | c1
      all_goals
        go_enter Tryz.func118, Tryz.ntmps118
        go_wp2
        go_ret2
        exact ⟨rfl, Below.refl _ _⟩
    · rw [if_neg c1] at hx
      injection hx with e1 e2
      subst e2
      have E1 := hid (show (b.toNat : Int) = s[0].toNat by rw [← e1])
      clear e1
      go_enter Tryz.func118, Tryz.ntmps118
      go_wp2
      go_ret2
      rw [E1.out]
      exact ⟨rfl, Below.refl _ _⟩
end

/-! ### Pstr -/
section
open Go.RowKit

/-- A call that returns a value and an error's number. -/
def RetV (w : World) (x : V × Int) (e : Ending) (w' : World) : Prop := e = .returned (.tuple #[.agg #[.int .i64 x.1.k, .int .i64 x.1.n, .string x.1.s], .int .i64 x.2]) ∧ Below w.heap.size w w'

theorem value_int (n : Int) (w : World) :
    Calls Tryz.prog 122 #[.int .i64 n] w fun e w' => e = .returned (.agg #[.int .i64 1, .int .i64 n, .string ⟨#[]⟩]) ∧ Below w.heap.size w w' := by
  go_enter Tryz.func122, Tryz.ntmps122
  go_wp2
  go_returns
  exact ⟨rfl, below_one _ _⟩

theorem str_clone (s : ByteArray) (w : World) (hs : s.size ≤ 100000) :
    Calls Tryz.prog 129 #[.string s] w fun e w' => e = .returned (.string s) ∧ Below w.heap.size w w' := by
  have HC := fun W => hid (Tryz.stringslite_Clone s W (by omega))
  go_enter Tryz.func129, Tryz.ntmps129
  go_wp2_with fail
  refine (HC _).out.mono ?_
  rintro e w1 ⟨rfl, k1⟩
  go_wp2
  go_ret
  exact ⟨rfl, k1⟩

/-- A store of a whole struct into the block that it lies in (a struct result). -/
theorem below_setRow (w : World) (g : Nat) (cs : Array Value) : Below g w (w.setRow g cs) :=
  ⟨rfl, rfl, rfl, by simp [World.setRow], fun k hk => setRow_other w g k cs (by omega)⟩

theorem wpList_store_res {P : Program} {w : World} {ops : Array Oper} {rest : List Oper} {o : Oper} {a : Act} {Q : Exit → Act → World → Prop} (hgd : o.guard = none) {ty : TypeId} {x y : Operand} (ho : o.op = .store ty x y)
    {g : Nat} {cells : Array Value} (hx : a.eval x = .pointer (some ⟨g, 0, none⟩)) (hy : a.eval y = .agg cells) {t : TypeId} {old : Array Value} (hz : w.heap[g]? = some (.cells old t))
    (hi : (P.info? ty).map (·.size) = some cells.size) (hold : old.size = cells.size) (h1 : cells.toList.all (·.oneCell') = true)
    (h : ∀ w', w'.heap[g]? = some (.cells cells t) → Below g w w' → wpList P ops Q rest (a.put o.dst undef) w') : wpList P ops Q (o :: rest) a w :=
  wpList_plain hgd fun _ hK => wp_store_row ty x y ho g cells hx hy t old hz hi hold (by simpa using h1) (hK _ _ (h _ (setRow_heap w g old cells t _ hz) (below_setRow w g cells)))

theorem res_at {w w' : World} {o : Obj} (h : Below (w.alloc o).heap.size (w.alloc o) w') : w'.heap[w.heap.size]? = some o := by
  rw [h.block _ (by simp)]; exact heap_alloc_new w o
theorem res_keep {w w' : World} {g B : Nat} {o : Obj} (hz : w.heap[g]? = some o) (h : Below B w w') (hg : g < B) : w'.heap[g]? = some o := by
  rw [h.block _ hg]; exact hz
theorem cell_res {w : World} {g : Nat} {cs : Array Value} {t : TypeId} (hz : w.heap[g]? = some (.cells cs t)) (k : Nat) : w.cell? ⟨g, k, none⟩ = cs[k]? := by
  simp [World.cell?, hz]

theorem infoVal : (Tryz.prog.info? 56).map (·.size) = some 3 := by kernel_rfl

theorem value_str (s : ByteArray) (w : World) (hs : s.size ≤ 100000) {x : V × Int} (hx : makeStr s.data.toList = x) :
    Calls Tryz.prog 119 #[.string s] w (RetV w x) := by
  unfold makeStr at hx
  have k0 := below_one w (.cells #[.int .i64 0, .int .i64 0, .string ⟨#[]⟩] 56)
  by_cases h : 24 < s.size
  · rw [if_pos (by simpa using h)] at hx
    subst hx
    go_enter Tryz.func119, Tryz.ntmps119
    go_wp2
    go_returns
    exact ⟨rfl, k0⟩
  · rw [if_neg (by simpa using h)] at hx
    subst hx
    have HC := fun W => hid (str_clone s W hs)
    go_enter Tryz.func119, Tryz.ntmps119
    go_wp2_with fail
    refine (HC _).out.mono ?_
    rintro e w1 ⟨rfl, b1⟩
    have hz := res_at b1
    have k1 := k0.trans (b1.mono k0.size)
    go_wp2_with (refine wpList_store_res rfl rfl rfl rfl hz infoVal rfl rfl ?_; intro w3 hz3 hb3)
    refine bodyPost_ret (by simp [results, Tryz.results119, go_sem, cell_res hz3]; rfl) rfl ?_
    exact ⟨rfl, k1.trans hb3⟩
theorem drop_extract (s : ByteArray) (k : Nat) : (s.extract k s.size).data.toList = s.data.toList.drop k := by
  simp only [ByteArray.data_extract, Array.toList_extract, List.extract]
  exact List.take_of_length_le (by simp)

theorem scan_end (l : List UInt8) : scan l [] = some (l, []) := by rw [scan, if_pos rfl]
theorem scan_stop {l t : List UInt8} {k : Nat} (h : k < t.length) (h' : t[k] = 34) : scan l (t.drop k) = some (l, t.drop k) := by
  rw [scan, if_neg (by simp; omega), if_pos (by rw [List.drop_eq_getElem_cons h]; exact h')]
theorem scan_bad {l t : List UInt8} {k n : Nat} {b : UInt8} (h : k < t.length) (h' : t[k] ≠ 34) (hu : unquoteL (t.drop k) = (b, n)) (hn : n = 0) : scan l (t.drop k) = none := by
  rw [scan, if_neg (by simp; omega), if_neg (by rw [List.drop_eq_getElem_cons h]; exact h'), hu, if_pos hn]
theorem scan_more {l t : List UInt8} {k n : Nat} {b : UInt8} (h : k < t.length) (h' : t[k] ≠ 34) (hu : unquoteL (t.drop k) = (b, n)) (hn : n ≠ 0) : scan l (t.drop k) = scan (l ++ [b]) (t.drop (k + n)) ∧ k + n ≤ t.length := by
  constructor
  · rw [scan, if_neg (by simp; omega), if_neg (by rw [List.drop_eq_getElem_cons h]; exact h'), hu, if_neg hn, List.drop_drop]
  · have := unquoteL_le (r := t.drop k) (by rw [List.drop_eq_getElem_cons h]; exact h') (by rw [hu]; exact hn)
    rw [hu, List.length_drop] at this
    simp only at this; omega

/-- How a scan ends. -/
def scanRes : Option (List UInt8 × List UInt8) → V × Int
  | none => (V0, 15)
  | some (o, t) => if t.length = 1 then makeStr o else (V0, 15)
theorem scanRes_some (o t : List UInt8) : scanRes (some (o, t)) = if t.length = 1 then makeStr o else (V0, 15) := rfl
theorem pStr_res (l : List UInt8) : pStr l = scanRes (scan [] l) := by
  unfold pStr scanRes
  cases scan [] l <;> rfl

set_option maxRecDepth 100000 in
set_option maxHeartbeats 1000000 in
theorem parse_str (s : ByteArray) (w : World) (h0 : 0 < s.size) (hs : s.size ≤ 100000) {x : V × Int} (hx : pStr (s.data.toList.drop 1) = x) :
    Calls Tryz.prog 113 #[.string s] w (RetV w x) := by
  obtain ⟨i0, hi, hz0, hz1, hz2⟩ := info_parts infoByte
  rw [pStr_res] at hx
  have HX := hid hx
  have k0 := below_one w (.cells #[.int .i64 0, .int .i64 0, .string ⟨#[]⟩] 56)
  clear hx
  go_enter Tryz.func113, Tryz.ntmps113
  go_wp2
  go_loopw [4, 5] (fun v i wr => ∃ (k : Nat) (l : List UInt8), 1 ≤ k ∧ k ≤ s.size ∧ i = .int .i64 k ∧ wr.ownsRow (w.heap.size + 1) 5 1 v l.length (Lib.byteCells l) ∧ l.length ≤ k ∧ Hid (scanRes (scan l (s.data.toList.drop k)) = x) ∧ Below (w.heap.size + 1) (w.alloc (.cells #[.int .i64 0, .int .i64 0, .string ⟨#[]⟩] 56)) wr) (fun _ i _ => s.size - (intOf i).toNat)
  case atStart => exact ⟨1, [], by omega, by omega, rfl, World.ownsRow_nil _ _ _ _, by simp, HX, Below.refl _ _⟩
  case round =>
    obtain ⟨k, l, hk1, hk, rfl, hown, hlen, HK, hbel⟩ := hrel
    clear HX
    have hz := res_keep (heap_alloc_new w _) hbel (by omega)
    have hsz : w.heap.size < wr.heap.size := by have := hbel.size; simp at this; omega
    have hbw : Below w.heap.size w wr := k0.trans (hbel.mono (by omega))
    by_cases hlt : k < s.size
    · by_cases h34 : s[k].toNat = 34
      · have hst := scan_stop (l := l) (t := s.data.toList) (k := k) (by simpa using hlt) (by have e : s[k] = 34 := UInt8.toNat.inj h34; exact e)
        rw [hst, scanRes_some] at HK
        have hl2 : (s.data.toList.drop k).length = s.size - k := by simp
        rw [hl2] at HK
        by_cases hend : k + 1 = s.size
        · rw [if_pos (by omega)] at HK
          have HS := fun W => hid (value_str ⟨l.toArray⟩ W (by simp [ByteArray.size]; omega) (x := x) HK.out)
          have hcv := run_own_to_string Tryz.underlying48 Tryz.underlying5 Tryz.underlying9 _ hown
          clear HK hst hl2
          go_wp2_with fail
          refine (HS _).out.mono ?_
          rintro e w2 ⟨rfl, b2⟩
          have hz2 := res_keep hz b2 hsz
          have hbw2 := hbw.trans (b2.mono (by omega))
          go_wp2_with (refine wpList_store_res rfl rfl rfl rfl hz2 infoVal rfl rfl ?_; intro w3 hz3 hb3)
          refine bodyPost_ret (by simp [results, Tryz.results113, go_sem, cell_res hz3]; rfl) rfl ?_
          exact ⟨rfl, hbw2.trans hb3⟩
        · rw [if_neg (by omega)] at HK
          have bend : ((k : Int) == (s.size : Int) - 1) = false := by simp; omega
          obtain rfl := HK.out
          clear HK hst hl2
          go_wp2_with (refine wpList_store_res rfl rfl rfl rfl hz infoVal rfl rfl ?_; intro w3 hz3 hb3)
          refine bodyPost_ret (by simp [results, Tryz.results113, go_sem, cell_res hz3]; rfl) rfl ?_
          exact ⟨rfl, hbw.trans hb3⟩
      · have b34 : ((s[k].toNat : Int) == 34) = false := by simp; omega
        have h34' : s.data.toList[k]'(by simpa using hlt) ≠ 34 := fun e => h34 (congrArg UInt8.toNat e)
        have HU := fun W b n (hu : unquoteL (s.data.toList.drop k) = (b, n)) => hid (unquote (s.extract k s.size) W (b := b) (n := n) (by simp; omega) (by rw [drop_extract]; exact hu))
        obtain ⟨⟨b, n⟩, hu⟩ : ∃ p, unquoteL (s.data.toList.drop k) = p := ⟨_, rfl⟩
        have HC := HU
        by_cases hn : n = 0
        · rw [scan_bad (by simpa using hlt) h34' hu hn] at HK
          obtain rfl := HK.out
          subst hn
          have HU2 := fun W => HU W b 0 hu
          clear HK HU HC hu h34'
          go_wp2_with fail
          refine (HU2 _).out.mono ?_
          rintro e w1 ⟨rfl, b1⟩
          have hz2 := res_keep hz b1 hsz
          have hbw2 := hbw.trans (b1.mono (by omega))
          clear HU2
          go_wp2_with (refine wpList_store_res rfl rfl rfl rfl hz2 infoVal rfl rfl ?_; intro w3 hz3 hb3)
          refine bodyPost_ret (by simp [results, Tryz.results113, go_sem, cell_res hz3]; rfl) rfl ?_
          exact ⟨rfl, hbw2.trans hb3⟩
        · obtain ⟨hsc, hle⟩ := scan_more (l := l) (by simpa using hlt) h34' hu hn
          rw [hsc] at HK
          have hle' : k + n ≤ s.size := by simpa using hle
          have bn : ((n : Int) == 0) = false := by simp; omega
          have HU2 := fun W => HU W b n hu
          clear HU HC hu h34' hsc hle
          go_wp2_with fail
          refine (HU2 _).out.mono ?_
          rintro e w1 ⟨rfl, b1⟩
          have hown1 := own_below hown b1
          have hbel1 := hbel.trans (b1.mono (by omega))
          have hs1 : w.heap.size + 1 ≤ w1.heap.size := by have := b1.size; omega
          clear HU2
          go_wp2_with (at_builtin; refine wpList_append_new Tryz.underlying48 hi hz0 hz1 hz2 rfl (by decide) (by decide) rfl rfl rfl hown1 rfl rfl rfl (by omega) hs1 ?_; intro v2 w2 hown2 hg2)
          go_roundw
          case rel => exact ⟨k + n, l ++ [b], by omega, hle', by go_num, byteCells_snoc _ _ _ rfl rfl hown2, by simp; omega, HK, hbel1.trans (grown_below hown1 hg2 hs1)⟩
          case measure => simp [intOf]; omega
    · have e : s.data.toList.drop k = [] := List.drop_eq_nil_of_le (by simp; omega)
      rw [e, scan_end] at HK
      obtain rfl : (V0, (15 : Int)) = x := HK.out
      have bend : ((k : Int) == (s.size : Int) - 1) = false := by simp; omega
      clear HK
      go_wp2_with (refine wpList_store_res rfl rfl rfl rfl hz infoVal rfl rfl ?_; intro w3 hz3 hb3)
      refine bodyPost_ret (by simp [results, Tryz.results113, go_sem, cell_res hz3]; rfl) rfl ?_
      exact ⟨rfl, hbw.trans hb3⟩
end

/-! ### Res -/
section
open Go.RowKit

/-- A store of a whole struct into the block that it lies in (a struct result). -/
theorem below_setRow' (w : World) (g : Nat) (cs : Array Value) : Below g w (w.setRow g cs) :=
  ⟨rfl, rfl, rfl, by simp [World.setRow], fun k hk => setRow_other w g k cs (by omega)⟩

theorem wpList_stored {P : Program} {w : World} {ops : Array Oper} {rest : List Oper} {o : Oper} {a : Act} {Q : Exit → Act → World → Prop} (hgd : o.guard = none) {ty : TypeId} {x y : Operand} (ho : o.op = .store ty x y)
    {g : Nat} {cells : Array Value} (hx : a.eval x = .pointer (some ⟨g, 0, none⟩)) (hy : a.eval y = .agg cells) {t : TypeId} {old : Array Value} (hz : w.heap[g]? = some (.cells old t))
    (hi : (P.info? ty).map (·.size) = some cells.size) (hold : old.size = cells.size) (h1 : cells.toList.all (·.oneCell') = true)
    (h : ∀ w', w'.heap[g]? = some (.cells cells t) → Below g w w' → wpList P ops Q rest (a.put o.dst undef) w') : wpList P ops Q (o :: rest) a w :=
  wpList_plain hgd fun _ hK => wp_store_row ty x y ho g cells hx hy t old hz hi hold (by simpa using h1) (hK _ _ (h _ (setRow_heap w g old cells t _ hz) (below_setRow' w g cells)))

theorem grown_setRow (w : World) (g : Nat) (cs : Array Value) : w.grownBy (w.setRow g cs) (some g) :=
  ⟨rfl, rfl, rfl, by simp [World.setRow], fun k _ hk => setRow_other w g k cs (fun e => hk (by rw [e]))⟩
theorem wpList_stored2 {P : Program} {w : World} {ops : Array Oper} {rest : List Oper} {o : Oper} {a : Act} {Q : Exit → Act → World → Prop} (hgd : o.guard = none) {ty : TypeId} {x y : Operand} (ho : o.op = .store ty x y)
    {g : Nat} {cells : Array Value} (hx : a.eval x = .pointer (some ⟨g, 0, none⟩)) (hy : a.eval y = .agg cells) {t : TypeId} {old : Array Value} (hz : w.heap[g]? = some (.cells old t))
    (hi : (P.info? ty).map (·.size) = some cells.size) (hold : old.size = cells.size) (h1 : cells.toList.all (·.oneCell') = true)
    (h : ∀ w', w'.heap[g]? = some (.cells cells t) → w.grownBy w' (some g) → wpList P ops Q rest (a.put o.dst undef) w') : wpList P ops Q (o :: rest) a w :=
  wpList_plain hgd fun _ hK => wp_store_row ty x y ho g cells hx hy t old hz hi hold (by simpa using h1) (hK _ _ (h _ (setRow_heap w g old cells t _ hz) (grown_setRow w g cells)))
theorem res_at' {w w' : World} {o : Obj} (h : Below (w.alloc o).heap.size (w.alloc o) w') : w'.heap[w.heap.size]? = some o := by
  rw [h.block _ (by simp)]; exact heap_alloc_new w o
theorem res_keep' {w w' : World} {g B : Nat} {o : Obj} (hz : w.heap[g]? = some o) (h : Below B w w') (hg : g < B) : w'.heap[g]? = some o := by
  rw [h.block _ hg]; exact hz
theorem cell_res' {w : World} {g : Nat} {cs : Array Value} {t : TypeId} (hz : w.heap[g]? = some (.cells cs t)) (k : Nat) : w.cell? ⟨g, k, none⟩ = cs[k]? := by
  simp [World.cell?, hz]


/-- A block that a call lays first, later. -/
theorem res_first {w w' : World} {o : Obj} (h : Below (w.heap.size + 1) (w.alloc o) w') : w'.heap[w.heap.size]? = some o := by
  rw [h.block _ (by omega)]; exact heap_alloc_new w o
end

/-! ### Coh -/
section
open Go.RowKit
theorem coh {w : World} {b o : Nat} {vs : Array Value} {e : TypeId} {fz : Nat × Nat} (h : w.heap[b]? = some (.cells vs e fz)) {v : Value} (hv : vs[o]? = some v) : w.cell? ⟨b, o, none⟩ = some v := by
  rw [Lib.cell_of_heap h]; exact hv
end

/-! ### Lits -/
section
open Go.RowKit

/-- 'string([]byte{..})' of a literal row. -/
theorem run_lit_str {P : Program} {src dst e : TypeId} (hs : P.underlying src = some (.slice e)) (he : P.underlying e = some (.int .u8)) (hd : P.underlying dst = some .string) (w : World) (l : List UInt8) (cs : Array Value) (hc : cs = (Lib.byteCells l).toArray) (n c : Nat) (hn : n = l.length) :
    (convert src dst (.slice (some ⟨w.heap.size, 0, none⟩) n c)).run P (w.alloc (.cells cs e)) = .ok (.string ⟨l.toArray⟩) (w.alloc (.cells cs e)) := by
  subst hc hn
  refine run_convert_bytes_back _ src dst e ⟨w.heap.size, 0, none⟩ c l hs he hd fun j hj => ?_
  have : Addr.add ⟨w.heap.size, 0, none⟩ j = ⟨w.heap.size, j, none⟩ := by unfold Addr.add; by_cases hj : j = 0 <;> simp [hj]
  rw [this, cell_res' (heap_alloc_new w _)]
  simp [Lib.byteCells, hj]

theorem lit1 (w : World) (c : UInt8) (x : Int) (hx : x = c.toNat) :
    (convert 48 9 (.slice (some ⟨w.heap.size, 0, none⟩) 1 1)).run Tryz.prog (w.alloc (.cells #[.int .u8 x] 5)) = .ok (.string ⟨#[c]⟩) (w.alloc (.cells #[.int .u8 x] 5)) := by
  subst hx
  exact run_lit_str Tryz.underlying48 Tryz.underlying5 Tryz.underlying9 w [c] _ rfl _ _ rfl
theorem lit2 (w : World) (c d : UInt8) (x y : Int) (hx : x = c.toNat) (hy : y = d.toNat) :
    (convert 48 9 (.slice (some ⟨w.heap.size, 0, none⟩) 2 2)).run Tryz.prog (w.alloc (.cells #[.int .u8 x, .int .u8 y] 5)) = .ok (.string ⟨#[c, d]⟩) (w.alloc (.cells #[.int .u8 x, .int .u8 y] 5)) := by
  subst hx hy
  exact run_lit_str Tryz.underlying48 Tryz.underlying5 Tryz.underlying9 w [c, d] _ rfl _ _ rfl

theorem ret_cat {a b x : List UInt8} (h : a ++ b = x) : Ending.returned (.string (⟨a.toArray⟩ ++ ⟨b.toArray⟩)) = .returned (.string ⟨x.toArray⟩) := by
  subst h
  exact congrArg (fun a => Ending.returned (.string a)) (ByteArray.ext (by simp [ByteArray.data_append]))
theorem str_cat (a b : List UInt8) : Value.string (⟨a.toArray⟩ ++ ⟨b.toArray⟩) = .string ⟨(a ++ b).toArray⟩ :=
  congrArg Value.string (ByteArray.ext (by simp [ByteArray.data_append]))

end
end Go.Proofs.YtnbacdmlaedppaaGreatDoor
