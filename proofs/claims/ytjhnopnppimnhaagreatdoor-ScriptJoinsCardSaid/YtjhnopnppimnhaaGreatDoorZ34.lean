/-
  PARTS of a claim, merged by segs.py: Sk9.
-/
import Derived.Test.YtjhnopnppimnhaaGreatDoorZ21
import Derived.Test.YtjhnopnppimnhaaGreatDoorZ32
import Derived.Test.YtjhnopnppimnhaaGreatDoorZ33
namespace Go.Proofs.YtjhnopnppimnhaaGreatDoor

/-! ### Sk9 -/
section
open Go.RowKit

theorem infoArg : (Tryz.prog.info? 80).map (fun i => (i.zero, i.size, i.bytes)) = some (some (.agg #[.nilFunc]), 1, 8) := by kernel_rfl
/-- The closure of an argument. -/
def AgV (sp : Nat) (w : World) (a : Ag) (v : Value) : Prop := match a with
  | .nam => v = .func (.func 42) #[.pointer (some ⟨sp, 0, none⟩)] #[]
  | .kds => v = .func (.func 43) #[.pointer (some ⟨sp, 0, none⟩)] #[]
  | .rqb => v = .func (.func 46) #[.pointer (some ⟨sp, 0, none⟩)] #[]
  | .row => v = .func (.func 47) #[.pointer (some ⟨sp, 0, none⟩)] #[]
  | .qry => v = .func (.func 48) #[.pointer (some ⟨sp, 0, none⟩)] #[]
  | .num lo hi => ∃ b2 b7, v = .func (.func 44) #[] #[.pointer (some ⟨b2, 0, none⟩), .pointer (some ⟨b7, 0, none⟩)] ∧ sp < b2 ∧ sp < b7 ∧
      w.heap[b2]? = some (.cells #[.pointer (some ⟨sp, 0, none⟩)] 69) ∧ w.heap[b7]? = some (.cells #[.int .i64 lo, .int .i64 hi] 82)
section
variable {sp : Nat} {w w' : World} {a : Ag} {v : Value}
theorem AgV.carry (h : AgV sp w a v) (hk : ∀ b cs T, sp < b → w.heap[b]? = some (.cells cs T) → T ≠ 80 → T ≠ 2 → w'.heap[b]? = some (.cells cs T)) : AgV sp w' a v := by
  cases a with
  | num lo hi =>
    obtain ⟨b2, b7, e, h1, h2, h3, h4⟩ := h
    exact ⟨b2, b7, e, h1, h2, hk _ _ _ h1 h3 (by decide) (by decide), hk _ _ _ h2 h4 (by decide) (by decide)⟩
  | _ => exact h
theorem AgV.below (h : AgV sp w a v) (hb : Below w.heap.size w w') : AgV sp w' a v := h.carry fun b _ _ _ hc _ _ => (hb.block b (lt_of_block hc)).trans hc
theorem AgV.scc (h : AgV sp w a v) (hc : ScC sp w w') : AgV sp w' a v := h.carry fun _ _ _ hb hc' _ h2 => hc.kept hc' (by omega) h2
theorem AgV.grown (h : AgV sp w a v) {B n : Nat} {u : Value} {xs : List Value} (ho : w.ownsRow B 80 1 u n xs) (hg : w.grownBy w' u.ownBlock) : AgV sp w' a v := h.carry fun b cs T _ hc hT _ => box_grown hc hg (fun e => by
  rcases ho.2 with ⟨rfl, _⟩ | ⟨g, cap, cur, rfl, _, hh, _⟩
  · cases e
  · have : g = b := by injection e
    subst this
    rw [hc] at hh
    injection hh with hh
    injection hh with _ hh _
    exact hT hh)
def AgVs (sp : Nat) (w : World) (l : List Ag) (fs : List Value) : Prop := fs.length = l.length ∧ ∀ i (h : i < l.length) (h' : i < fs.length), AgV sp w l[i] fs[i]
variable {l : List Ag} {fs : List Value}
theorem AgVs.scc (h : AgVs sp w l fs) (hc : ScC sp w w') : AgVs sp w' l fs := ⟨h.1, fun i a b => (h.2 i a b).scc hc⟩
theorem AgVs.below (h : AgVs sp w l fs) (hb : Below w.heap.size w w') : AgVs sp w' l fs := ⟨h.1, fun i a b => (h.2 i a b).below hb⟩
theorem AgVs.grown (h : AgVs sp w l fs) {B n : Nat} {u : Value} {xs : List Value} (ho : w.ownsRow B 80 1 u n xs) (hg : w.grownBy w' u.ownBlock) : AgVs sp w' l fs := ⟨h.1, fun i a b => (h.2 i a b).grown ho hg⟩
theorem AgVs.push (h : AgVs sp w l fs) (h2 : AgV sp w a v) : AgVs sp w (l ++ [a]) (fs ++ [v]) := by
  refine ⟨by simp [h.1], fun i hi hi' => ?_⟩
  by_cases hlt : i < l.length
  · rw [List.getElem_append_left hlt, List.getElem_append_left (by rw [h.1]; exact hlt)]
    exact h.2 i hlt _
  · have : i = l.length := by simp at hi; omega
    subst this
    have h3 := h.1
    simp only [List.getElem_append_right (Nat.le_refl _), Nat.sub_self, List.getElem_cons_zero]
    rw [List.getElem_append_right (by omega)]
    simp [h3]; exact h2

/-- The closure's own walk. -/
theorem skn_num1 {b2 b7 : Nat} {lo hi : Int} {t : Sn} (h : SW sp t w) (hB : ∃ w0 : World, EnvL w0 ∧ w0.heap.size ≤ sp ∧ Below w0.heap.size w0 w) (h3 : w.heap[b2]? = some (.cells #[.pointer (some ⟨sp, 0, none⟩)] 69)) (h4 : w.heap[b7]? = some (.cells #[.int .i64 lo, .int .i64 hi] 82)) :
    Calls Tryz.prog 44 #[.pointer (some ⟨b2, 0, none⟩), .pointer (some ⟨b7, 0, none⟩)] w (RetSc sp w (t.numS lo hi)) := by
  have H1 := hid (skn_number lo hi h hB)
  have c2 := box_cell h3 0
  have c7 := box_cell h4 0
  have c8 := box_cell h4 1
  clear h hB h3 h4
  go_enter Tryz.func44, Tryz.ntmps44
  go_wp2_with fail
  refine H1.out.mono ?_
  rintro e w1 ⟨rfl, p1, k1⟩
  have P1 := hid (And.intro p1 k1)
  clear H1 p1 k1
  go_wp2
  go_ret
  exact ⟨rfl, P1.out.1, P1.out.2⟩
/-- What is called at an argument. -/
def AgC (sp : Nat) (w : World) (v : Value) (x : Sn × Int) : Prop :=
  (∃ fe p, v = .func (.func fe) #[p] #[] ∧ (∀ args W, (callFunc fe args).run Tryz.prog W = .ok (.enter fe args) W) ∧ Calls Tryz.prog fe #[p] w (RetSc sp w x)) ∨
  (∃ fe p q, v = .func (.func fe) #[] #[p, q] ∧ (∀ args W, (callFunc fe args).run Tryz.prog W = .ok (.enter fe args) W) ∧ Calls Tryz.prog fe #[p, q] w (RetSc sp w x))
set_option maxRecDepth 100000 in
theorem AgV.call (h : AgV sp w a v) {t : Sn} (hs : SW sp t w) (hB : ∃ w0 : World, EnvL w0 ∧ w0.heap.size ≤ sp ∧ Below w0.heap.size w0 w) : AgC sp w v (scanA a t) := by
  have hB2 : ∃ w0 : World, Env w0 ∧ w0.heap.size ≤ sp ∧ Below w0.heap.size w0 w := let ⟨w0, h0, h1⟩ := hB; ⟨w0, h0.env, h1⟩
  cases a with
  | nam => exact .inl ⟨_, _, h, fun _ _ => rfl, skn_name hs⟩
  | kds => exact .inl ⟨_, _, h, fun _ _ => rfl, skn_kinds hs (by unfold Sn.left; split <;> simp) rfl⟩
  | rqb => exact .inl ⟨_, _, h, fun _ _ => rfl, skn_rowBefore hs hB2 rfl⟩
  | row =>
    obtain ⟨w0, h0, h1, h2⟩ := hB2
    exact .inl ⟨_, _, h, fun _ _ => rfl, skn_row hs (h0.below h2) (.inr ⟨w0, h0, h1, h2⟩)⟩
  | qry => exact .inl ⟨_, _, h, fun _ _ => rfl, skn_query hs hB⟩
  | num lo hi =>
    obtain ⟨b2, b7, e, _, _, h3, h4⟩ := h
    exact .inr ⟨_, _, _, e, fun _ _ => rfl, skn_num1 hs hB h3 h4⟩

/-- The list under way. -/
structure ArI (sp : Nat) (f : Shp) (A : Option Addr) (c : Nat) (w W : World) (l : List Ag) (fs : List Value) (u : Value) : Prop where
  b2 : W.heap[w.heap.size]? = some (.cells #[.pointer (some ⟨sp, 0, none⟩)] 69)
  b3 : W.heap[w.heap.size + 1]? = some (.cells #[.bool f.name, .bool f.kinds, .slice A f.nums.length c, .bool f.row, .bool f.query] 76)
  own : W.ownsRow (w.heap.size + 1 + 1) 80 1 u fs.length fs
  ag : AgVs sp W l fs
  bel : Below w.heap.size w W
theorem ArI.on {f : Shp} {A : Option Addr} {c : Nat} {W W' : World} {u : Value} (h : ArI sp f A c w W l fs u) (hb : Below W.heap.size W W') : ArI sp f A c w W' l fs u :=
  ⟨(hb.block _ (lt_of_block h.b2)).trans h.b2, (hb.block _ (lt_of_block h.b3)).trans h.b3, own_belowS h.own hb, h.ag.below hb, h.bel.trans (hb.mono h.bel.size)⟩
theorem ArI.push {f : Shp} {A : Option Addr} {c : Nat} {W W' : World} {u u2 : Value} (h : ArI sp f A c w W l fs u) (hv : AgV sp W a v) (hg : W.grownBy W' u.ownBlock) (ho : W'.ownsRow (w.heap.size + 1 + 1) 80 1 u2 (fs.length + 1) (fs ++ [v])) : ArI sp f A c w W' (l ++ [a]) (fs ++ [v]) u2 := by
  have hx : ∀ b, b < w.heap.size + 1 + 1 → u.ownBlock ≠ some b := fun b hb e => by have := (h.own.lt b e).1; omega
  exact ⟨box_grown h.b2 hg (hx _ (by omega)), box_grown h.b3 hg (hx _ (by omega)), by rw [List.length_append]; exact ho, (h.ag.grown h.own hg).push (hv.grown h.own hg), h.bel.trans (grown_below h.own hg (by have := lt_of_block h.b3; omega) |>.mono (by omega))⟩
theorem ArI.cells {f : Shp} {A : Option Addr} {c : Nat} {W : World} {u : Value} (h : ArI sp f A c w W l fs u) : W.cell? ⟨w.heap.size, 0, none⟩ = some (.pointer (some ⟨sp, 0, none⟩)) ∧ W.cell? ⟨w.heap.size + 1, 0, none⟩ = some (.bool f.name) ∧ W.cell? ⟨w.heap.size + 1, 1, none⟩ = some (.bool f.kinds) ∧ W.cell? ⟨w.heap.size + 1, 2, none⟩ = some (.slice A f.nums.length c) ∧ W.cell? ⟨w.heap.size + 1, 3, none⟩ = some (.bool f.row) ∧ W.cell? ⟨w.heap.size + 1, 4, none⟩ = some (.bool f.query) ∧ w.heap.size + 1 + 1 ≤ W.heap.size :=
  ⟨box_cell h.b2 0, box_cell h.b3 0, box_cell h.b3 1, box_cell h.b3 2, box_cell h.b3 3, box_cell h.b3 4, by have := lt_of_block h.b3; omega⟩
/-- What arguments answers. -/
def RetAg (sp : Nat) (w : World) (f : Shp) (e : Ending) (w' : World) : Prop :=
  ∃ A c fs, e = .returned (.slice A fs.length c) ∧ w'.ownsRow w.heap.size 80 1 (.slice A fs.length c) fs.length fs ∧ AgVs sp w' (argsF f) fs ∧ Below w.heap.size w w'
theorem ArI.done {f : Shp} {A : Option Addr} {c : Nat} {W : World} {u : Value} (h : ArI sp f A c w W (argsF f) fs u) : RetAg sp w f (.returned u) W := by
  obtain ⟨A', c', e⟩ := own_sl h.own
  subst e
  exact ⟨A', c', fs, rfl, ren_mono h.own (by omega), h.ag, h.bel⟩
end
theorem own_e0 {w : World} {B g e z : Nat} (hB : B ≤ g) (h : w.heap[g]? = some (.cells #[] e)) : w.ownsRow B e z (.slice (some ⟨g, 0, none⟩) 0 0) 0 [] :=
  ⟨by simp, .inr ⟨g, 0, #[], rfl, hB, h, Nat.le_refl _, by unfold maxLen; omega, by simp, by simp⟩⟩
theorem ArI.done2 {sp c : Nat} {f : Shp} {A : Option Addr} {w W : World} {l : List Ag} {fs : List Value} {u : Value} (h : ArI sp f A c w W l fs u) (e : argsF f = l) : RetAg sp w f (.returned u) W := by
  subst e; exact h.done
theorem ar_append {sp c : Nat} {f : Shp} {A : Option Addr} {w W : World} {l : List Ag} {fs : List Value} {u : Value} {ops : Array Oper} {rest : List Oper} {o : Oper} {a : Act} {Q : Exit → Act → World → Prop} {v : Value} {ag : Ag}
    (HI : Hid (ArI sp f A c w W l fs u)) (hl : l.length ≤ 1000) (hgd : o.guard = none) {s x : Operand} (ho : o.op = .call { callee := .builtin .append, args := #[s, x], argTypes := #[72, 72] }) (hs : a.eval s = u) {g m : Nat} (hx : a.eval x = .slice (some ⟨g, 0, none⟩) 1 m) (hg : g = W.heap.size)
    (h1 : v.oneCell' = true) (hv : AgV sp W ag v) (h : ∀ A9 c9 W9, Hid (ArI sp f A c w W9 (l ++ [ag]) (fs ++ [v]) (.slice A9 (fs.length + 1) c9)) → wpList Tryz.prog ops Q rest (a.put o.dst (.slice A9 (fs.length + 1) c9)) W9) : wpList Tryz.prog ops Q (o :: rest) a (W.alloc (.cells #[v] 80)) := by
  obtain ⟨i0, hi0, hz0, hz1, hz2⟩ := info_parts infoArg
  have hlen := HI.out.ag.1
  refine wpList_append_new2 (news := [v]) Tryz.underlying72 hi0 hz0 hz1 hz2 rfl (by decide) (by decide) hgd ho hs HI.out.own hx hg rfl (by simp [h1]) (by omega) HI.out.cells.2.2.2.2.2.2 ?_
  intro v2 w3 hown2 hg2
  obtain ⟨A9, c9, rfl⟩ := own_sl hown2
  exact h A9 c9 w3 (hid (HI.out.push hv hg2 hown2))
section
variable {sp : Nat} {w : World}
set_option maxRecDepth 100000 in
set_option maxHeartbeats 8000000 in
theorem skn_arguments (f : Shp) (A : Option Addr) (c : Nat) (hsp : sp < w.heap.size) (hn : SpnAt w A f.nums) (hl : f.nums.length ≤ 100) :
    Calls Tryz.prog 30 #[.pointer (some ⟨sp, 0, none⟩), .agg #[.bool f.name, .bool f.kinds, .slice A f.nums.length c, .bool f.row, .bool f.query]] w (RetAg sp w f) := by
  obtain ⟨W0, hW0⟩ : ∃ W0, (((w.alloc (.cells #[.pointer (some ⟨sp, 0, none⟩)] 69)).alloc (.cells #[.bool f.name, .bool f.kinds, .slice A f.nums.length c, .bool f.row, .bool f.query] 76)).alloc (.cells #[] 80)) = W0 := ⟨_, rfl⟩
  have I0 : Hid (ArI sp f A c w W0 [] [] (.slice (some ⟨w.heap.size + 1 + 1, 0, none⟩) 0 0)) := hid (by
    rw [← hW0]
    refine ⟨?_, ?_, own_e0 (by omega) ?_, ⟨rfl, fun i h => absurd h (by simp)⟩, below_three w _ _ _⟩
    · rw [Below.heap_alloc _ _ _ (by simp; omega), Below.heap_alloc _ _ _ (by simp)]; exact heap_alloc_new w _
    · rw [Below.heap_alloc _ _ _ (by simp)]
      have := heap_alloc_new (w.alloc (.cells #[.pointer (some ⟨sp, 0, none⟩)] 69)) (.cells #[.bool f.name, .bool f.kinds, .slice A f.nums.length c, .bool f.row, .bool f.query] 76)
      rw [World.size_alloc] at this; exact this
    · have := heap_alloc_new ((w.alloc (.cells #[.pointer (some ⟨sp, 0, none⟩)] 69)).alloc (.cells #[.bool f.name, .bool f.kinds, .slice A f.nums.length c, .bool f.row, .bool f.query] 76)) (.cells #[] 80)
      rw [World.size_alloc, World.size_alloc] at this; exact this)
  have HN := hid hn
  have HW0 := hid hW0
  clear hn hW0
  obtain ⟨nm, kd, nums, rr, qq⟩ := f
  simp only at *
  obtain ⟨c2, c30, c31, c32, c33, c34, hsz2⟩ := I0.out.cells
  cases nm <;> cases kd
  · go_enter Tryz.func30, Tryz.ntmps30
    go_upto_region 2 with (first | rw [HW0.out] | fail)
    generalize (Value.slice (some ⟨w.heap.size + 1 + 1, 0, none⟩) 0 0) = u0 at *
    go_wp2_with (first | (at_builtin; (first | refine ar_append (ag := .nam) (by assumption) (by simp <;> omega) rfl rfl rfl rfl (by simp) rfl rfl ?_ | refine ar_append (ag := .kds) (by assumption) (by simp <;> omega) rfl rfl rfl rfl (by simp) rfl rfl ?_ | refine ar_append (ag := .rqb) (by assumption) (by simp <;> omega) rfl rfl rfl rfl (by simp) rfl rfl ?_ | refine ar_append (ag := .row) (by assumption) (by simp <;> omega) rfl rfl rfl rfl (by simp) rfl rfl ?_ | refine ar_append (ag := .qry) (by assumption) (by simp <;> omega) rfl rfl rfl rfl (by simp) rfl rfl ?_); intro A9 c9 W9 HI9; obtain ⟨c2, c30, c31, c32, c33, c34, hsz2⟩ := HI9.out.cells) | fail)
    have HJ := hid I0.out
    go_loopw [28, 5] (fun i u wr => ∃ (k : Nat) (fs : List Value), k ≤ nums.length ∧ i = .int .i64 k ∧ Hid (ArI sp ⟨false, false, nums, rr, qq⟩ A c w wr ([] ++ (nums.take k).map (fun r : Int × Int => Ag.num r.1 r.2)) fs u)) (fun i _ _ => nums.length - (intOf i).toNat)
    case atStart => exact ⟨0, _, by omega, rfl, hid (by simpa using HJ.out)⟩
    case round =>
      obtain ⟨k, fs, hk, rfl, HK⟩ := hrel
      clear HJ c2 c30 c31 c32 c33 c34 hsz2 I0
      obtain ⟨c2, c30, c31, c32, c33, c34, hsz2⟩ := HK.out.cells
      by_cases hlt : k < nums.length
      · obtain ⟨b, o, rfl, hc⟩ := HN.out.below HK.out.bel (by omega)
        obtain ⟨d0, d1⟩ := hc k hlt
        have k1 := below_one wr (.cells #[.int .i64 nums[k].1, .int .i64 nums[k].2] 82)
        have HK1 := hid (HK.out.on k1)
        have HB7 := hid (heap_alloc_new wr (.cells #[.int .i64 nums[k].1, .int .i64 nums[k].2] 82))
        have HV : Hid (AgV sp (wr.alloc (.cells #[.int .i64 nums[k].1, .int .i64 nums[k].2] 82)) (Ag.num nums[k].1 nums[k].2) (.func (.func 44) #[] #[.pointer (some ⟨w.heap.size, 0, none⟩), .pointer (some ⟨wr.heap.size, 0, none⟩)])) := hid ⟨_, _, rfl, by omega, by omega, HK1.out.b2, HB7.out⟩
        have HT : Hid ([] ++ (nums.take (k + 1)).map (fun r : Int × Int => Ag.num r.1 r.2) = [] ++ (nums.take k).map (fun r : Int × Int => Ag.num r.1 r.2) ++ [Ag.num nums[k].1 nums[k].2]) := hid (by
          rw [List.take_succ_eq_append_getElem hlt, List.map_append]
          simp)
        have hll : ([] ++ (nums.take k).map (fun r : Int × Int => Ag.num r.1 r.2)).length ≤ 1000 := by simp <;> omega
        have HLl := hid hll
        clear hc k1 HK HB7 hll
        go_wp2_with (first | (at_builtin; refine ar_append HK1 HLl.out rfl rfl rfl rfl (by simp) rfl HV.out ?_; intro A9 c9 W9 HI9) | fail)
        go_roundw
        case rel => exact ⟨k + 1, _, by omega, by go_num, hid (by rw [HT.out]; simpa using HI9.out)⟩
        case measure => simp [intOf]; omega
      · have HT : Hid ([] ++ (nums.take k).map (fun r : Int × Int => Ag.num r.1 r.2) = [] ++ nums.map (fun r : Int × Int => Ag.num r.1 r.2)) := hid (by rw [List.take_of_length_le (by omega)])
        rw [HT.out] at HK
        have hfl := HK.out.ag.1
        clear HT hfl
        cases rr <;> cases qq
        all_goals
          go_wp2_with (first | (at_builtin; (first | refine ar_append (ag := .nam) (by assumption) (by simp <;> omega) rfl rfl rfl rfl (by simp) rfl rfl ?_ | refine ar_append (ag := .kds) (by assumption) (by simp <;> omega) rfl rfl rfl rfl (by simp) rfl rfl ?_ | refine ar_append (ag := .rqb) (by assumption) (by simp <;> omega) rfl rfl rfl rfl (by simp) rfl rfl ?_ | refine ar_append (ag := .row) (by assumption) (by simp <;> omega) rfl rfl rfl rfl (by simp) rfl rfl ?_ | refine ar_append (ag := .qry) (by assumption) (by simp <;> omega) rfl rfl rfl rfl (by simp) rfl rfl ?_); intro A9 c9 W9 HI9; obtain ⟨c2, c30, c31, c32, c33, c34, hsz2⟩ := HI9.out.cells) | fail)
          go_ret
          first | exact HI9.out.done2 (by simp [argsF]) | (have h9 := HI9.out.done2 (by simp [argsF]); simpa using h9) | exact HK.out.done2 (by simp [argsF])
  · go_enter Tryz.func30, Tryz.ntmps30
    go_upto_region 2 with (first | rw [HW0.out] | fail)
    generalize (Value.slice (some ⟨w.heap.size + 1 + 1, 0, none⟩) 0 0) = u0 at *
    go_wp2_with (first | (at_builtin; (first | refine ar_append (ag := .nam) (by assumption) (by simp <;> omega) rfl rfl rfl rfl (by simp) rfl rfl ?_ | refine ar_append (ag := .kds) (by assumption) (by simp <;> omega) rfl rfl rfl rfl (by simp) rfl rfl ?_ | refine ar_append (ag := .rqb) (by assumption) (by simp <;> omega) rfl rfl rfl rfl (by simp) rfl rfl ?_ | refine ar_append (ag := .row) (by assumption) (by simp <;> omega) rfl rfl rfl rfl (by simp) rfl rfl ?_ | refine ar_append (ag := .qry) (by assumption) (by simp <;> omega) rfl rfl rfl rfl (by simp) rfl rfl ?_); intro A9 c9 W9 HI9; obtain ⟨c2, c30, c31, c32, c33, c34, hsz2⟩ := HI9.out.cells) | fail)
    have HJ := hid HI9.out
    go_loopw [28, 5] (fun i u wr => ∃ (k : Nat) (fs : List Value), k ≤ nums.length ∧ i = .int .i64 k ∧ Hid (ArI sp ⟨false, true, nums, rr, qq⟩ A c w wr ([] ++ [Ag.kds] ++ (nums.take k).map (fun r : Int × Int => Ag.num r.1 r.2)) fs u)) (fun i _ _ => nums.length - (intOf i).toNat)
    case atStart => exact ⟨0, _, by omega, rfl, hid (by simpa using HJ.out)⟩
    case round =>
      obtain ⟨k, fs, hk, rfl, HK⟩ := hrel
      clear HJ c2 c30 c31 c32 c33 c34 hsz2 I0 HI9
      obtain ⟨c2, c30, c31, c32, c33, c34, hsz2⟩ := HK.out.cells
      by_cases hlt : k < nums.length
      · obtain ⟨b, o, rfl, hc⟩ := HN.out.below HK.out.bel (by omega)
        obtain ⟨d0, d1⟩ := hc k hlt
        have k1 := below_one wr (.cells #[.int .i64 nums[k].1, .int .i64 nums[k].2] 82)
        have HK1 := hid (HK.out.on k1)
        have HB7 := hid (heap_alloc_new wr (.cells #[.int .i64 nums[k].1, .int .i64 nums[k].2] 82))
        have HV : Hid (AgV sp (wr.alloc (.cells #[.int .i64 nums[k].1, .int .i64 nums[k].2] 82)) (Ag.num nums[k].1 nums[k].2) (.func (.func 44) #[] #[.pointer (some ⟨w.heap.size, 0, none⟩), .pointer (some ⟨wr.heap.size, 0, none⟩)])) := hid ⟨_, _, rfl, by omega, by omega, HK1.out.b2, HB7.out⟩
        have HT : Hid ([] ++ [Ag.kds] ++ (nums.take (k + 1)).map (fun r : Int × Int => Ag.num r.1 r.2) = [] ++ [Ag.kds] ++ (nums.take k).map (fun r : Int × Int => Ag.num r.1 r.2) ++ [Ag.num nums[k].1 nums[k].2]) := hid (by
          rw [List.take_succ_eq_append_getElem hlt, List.map_append]
          simp)
        have hll : ([] ++ [Ag.kds] ++ (nums.take k).map (fun r : Int × Int => Ag.num r.1 r.2)).length ≤ 1000 := by simp <;> omega
        have HLl := hid hll
        clear hc k1 HK HB7 hll
        go_wp2_with (first | (at_builtin; refine ar_append HK1 HLl.out rfl rfl rfl rfl (by simp) rfl HV.out ?_; intro A9 c9 W9 HI9) | fail)
        go_roundw
        case rel => exact ⟨k + 1, _, by omega, by go_num, hid (by rw [HT.out]; simpa using HI9.out)⟩
        case measure => simp [intOf]; omega
      · have HT : Hid ([] ++ [Ag.kds] ++ (nums.take k).map (fun r : Int × Int => Ag.num r.1 r.2) = [] ++ [Ag.kds] ++ nums.map (fun r : Int × Int => Ag.num r.1 r.2)) := hid (by rw [List.take_of_length_le (by omega)])
        rw [HT.out] at HK
        have hfl := HK.out.ag.1
        clear HT hfl
        cases rr <;> cases qq
        all_goals
          go_wp2_with (first | (at_builtin; (first | refine ar_append (ag := .nam) (by assumption) (by simp <;> omega) rfl rfl rfl rfl (by simp) rfl rfl ?_ | refine ar_append (ag := .kds) (by assumption) (by simp <;> omega) rfl rfl rfl rfl (by simp) rfl rfl ?_ | refine ar_append (ag := .rqb) (by assumption) (by simp <;> omega) rfl rfl rfl rfl (by simp) rfl rfl ?_ | refine ar_append (ag := .row) (by assumption) (by simp <;> omega) rfl rfl rfl rfl (by simp) rfl rfl ?_ | refine ar_append (ag := .qry) (by assumption) (by simp <;> omega) rfl rfl rfl rfl (by simp) rfl rfl ?_); intro A9 c9 W9 HI9; obtain ⟨c2, c30, c31, c32, c33, c34, hsz2⟩ := HI9.out.cells) | fail)
          go_ret
          first | exact HI9.out.done2 (by simp [argsF]) | (have h9 := HI9.out.done2 (by simp [argsF]); simpa using h9) | exact HK.out.done2 (by simp [argsF])
  · go_enter Tryz.func30, Tryz.ntmps30
    go_upto_region 2 with (first | rw [HW0.out] | fail)
    generalize (Value.slice (some ⟨w.heap.size + 1 + 1, 0, none⟩) 0 0) = u0 at *
    go_wp2_with (first | (at_builtin; (first | refine ar_append (ag := .nam) (by assumption) (by simp <;> omega) rfl rfl rfl rfl (by simp) rfl rfl ?_ | refine ar_append (ag := .kds) (by assumption) (by simp <;> omega) rfl rfl rfl rfl (by simp) rfl rfl ?_ | refine ar_append (ag := .rqb) (by assumption) (by simp <;> omega) rfl rfl rfl rfl (by simp) rfl rfl ?_ | refine ar_append (ag := .row) (by assumption) (by simp <;> omega) rfl rfl rfl rfl (by simp) rfl rfl ?_ | refine ar_append (ag := .qry) (by assumption) (by simp <;> omega) rfl rfl rfl rfl (by simp) rfl rfl ?_); intro A9 c9 W9 HI9; obtain ⟨c2, c30, c31, c32, c33, c34, hsz2⟩ := HI9.out.cells) | fail)
    have HJ := hid HI9.out
    go_loopw [28, 5] (fun i u wr => ∃ (k : Nat) (fs : List Value), k ≤ nums.length ∧ i = .int .i64 k ∧ Hid (ArI sp ⟨true, false, nums, rr, qq⟩ A c w wr ([] ++ [Ag.nam] ++ (nums.take k).map (fun r : Int × Int => Ag.num r.1 r.2)) fs u)) (fun i _ _ => nums.length - (intOf i).toNat)
    case atStart => exact ⟨0, _, by omega, rfl, hid (by simpa using HJ.out)⟩
    case round =>
      obtain ⟨k, fs, hk, rfl, HK⟩ := hrel
      clear HJ c2 c30 c31 c32 c33 c34 hsz2 I0 HI9
      obtain ⟨c2, c30, c31, c32, c33, c34, hsz2⟩ := HK.out.cells
      by_cases hlt : k < nums.length
      · obtain ⟨b, o, rfl, hc⟩ := HN.out.below HK.out.bel (by omega)
        obtain ⟨d0, d1⟩ := hc k hlt
        have k1 := below_one wr (.cells #[.int .i64 nums[k].1, .int .i64 nums[k].2] 82)
        have HK1 := hid (HK.out.on k1)
        have HB7 := hid (heap_alloc_new wr (.cells #[.int .i64 nums[k].1, .int .i64 nums[k].2] 82))
        have HV : Hid (AgV sp (wr.alloc (.cells #[.int .i64 nums[k].1, .int .i64 nums[k].2] 82)) (Ag.num nums[k].1 nums[k].2) (.func (.func 44) #[] #[.pointer (some ⟨w.heap.size, 0, none⟩), .pointer (some ⟨wr.heap.size, 0, none⟩)])) := hid ⟨_, _, rfl, by omega, by omega, HK1.out.b2, HB7.out⟩
        have HT : Hid ([] ++ [Ag.nam] ++ (nums.take (k + 1)).map (fun r : Int × Int => Ag.num r.1 r.2) = [] ++ [Ag.nam] ++ (nums.take k).map (fun r : Int × Int => Ag.num r.1 r.2) ++ [Ag.num nums[k].1 nums[k].2]) := hid (by
          rw [List.take_succ_eq_append_getElem hlt, List.map_append]
          simp)
        have hll : ([] ++ [Ag.nam] ++ (nums.take k).map (fun r : Int × Int => Ag.num r.1 r.2)).length ≤ 1000 := by simp <;> omega
        have HLl := hid hll
        clear hc k1 HK HB7 hll
        go_wp2_with (first | (at_builtin; refine ar_append HK1 HLl.out rfl rfl rfl rfl (by simp) rfl HV.out ?_; intro A9 c9 W9 HI9) | fail)
        go_roundw
        case rel => exact ⟨k + 1, _, by omega, by go_num, hid (by rw [HT.out]; simpa using HI9.out)⟩
        case measure => simp [intOf]; omega
      · have HT : Hid ([] ++ [Ag.nam] ++ (nums.take k).map (fun r : Int × Int => Ag.num r.1 r.2) = [] ++ [Ag.nam] ++ nums.map (fun r : Int × Int => Ag.num r.1 r.2)) := hid (by rw [List.take_of_length_le (by omega)])
        rw [HT.out] at HK
        have hfl := HK.out.ag.1
        clear HT hfl
        cases rr <;> cases qq
        all_goals
          go_wp2_with (first | (at_builtin; (first | refine ar_append (ag := .nam) (by assumption) (by simp <;> omega) rfl rfl rfl rfl (by simp) rfl rfl ?_ | refine ar_append (ag := .kds) (by assumption) (by simp <;> omega) rfl rfl rfl rfl (by simp) rfl rfl ?_ | refine ar_append (ag := .rqb) (by assumption) (by simp <;> omega) rfl rfl rfl rfl (by simp) rfl rfl ?_ | refine ar_append (ag := .row) (by assumption) (by simp <;> omega) rfl rfl rfl rfl (by simp) rfl rfl ?_ | refine ar_append (ag := .qry) (by assumption) (by simp <;> omega) rfl rfl rfl rfl (by simp) rfl rfl ?_); intro A9 c9 W9 HI9; obtain ⟨c2, c30, c31, c32, c33, c34, hsz2⟩ := HI9.out.cells) | fail)
          go_ret
          first | exact HI9.out.done2 (by simp [argsF]) | (have h9 := HI9.out.done2 (by simp [argsF]); simpa using h9) | exact HK.out.done2 (by simp [argsF])
  · go_enter Tryz.func30, Tryz.ntmps30
    go_upto_region 2 with (first | rw [HW0.out] | fail)
    generalize (Value.slice (some ⟨w.heap.size + 1 + 1, 0, none⟩) 0 0) = u0 at *
    go_wp2_with (first | (at_builtin; (first | refine ar_append (ag := .nam) (by assumption) (by simp <;> omega) rfl rfl rfl rfl (by simp) rfl rfl ?_ | refine ar_append (ag := .kds) (by assumption) (by simp <;> omega) rfl rfl rfl rfl (by simp) rfl rfl ?_ | refine ar_append (ag := .rqb) (by assumption) (by simp <;> omega) rfl rfl rfl rfl (by simp) rfl rfl ?_ | refine ar_append (ag := .row) (by assumption) (by simp <;> omega) rfl rfl rfl rfl (by simp) rfl rfl ?_ | refine ar_append (ag := .qry) (by assumption) (by simp <;> omega) rfl rfl rfl rfl (by simp) rfl rfl ?_); intro A9 c9 W9 HI9; obtain ⟨c2, c30, c31, c32, c33, c34, hsz2⟩ := HI9.out.cells) | fail)
    have HJ := hid HI9.out
    go_loopw [28, 5] (fun i u wr => ∃ (k : Nat) (fs : List Value), k ≤ nums.length ∧ i = .int .i64 k ∧ Hid (ArI sp ⟨true, true, nums, rr, qq⟩ A c w wr ([] ++ [Ag.nam] ++ [Ag.kds] ++ (nums.take k).map (fun r : Int × Int => Ag.num r.1 r.2)) fs u)) (fun i _ _ => nums.length - (intOf i).toNat)
    case atStart => exact ⟨0, _, by omega, rfl, hid (by simpa using HJ.out)⟩
    case round =>
      obtain ⟨k, fs, hk, rfl, HK⟩ := hrel
      clear HJ c2 c30 c31 c32 c33 c34 hsz2 I0 HI9
      obtain ⟨c2, c30, c31, c32, c33, c34, hsz2⟩ := HK.out.cells
      by_cases hlt : k < nums.length
      · obtain ⟨b, o, rfl, hc⟩ := HN.out.below HK.out.bel (by omega)
        obtain ⟨d0, d1⟩ := hc k hlt
        have k1 := below_one wr (.cells #[.int .i64 nums[k].1, .int .i64 nums[k].2] 82)
        have HK1 := hid (HK.out.on k1)
        have HB7 := hid (heap_alloc_new wr (.cells #[.int .i64 nums[k].1, .int .i64 nums[k].2] 82))
        have HV : Hid (AgV sp (wr.alloc (.cells #[.int .i64 nums[k].1, .int .i64 nums[k].2] 82)) (Ag.num nums[k].1 nums[k].2) (.func (.func 44) #[] #[.pointer (some ⟨w.heap.size, 0, none⟩), .pointer (some ⟨wr.heap.size, 0, none⟩)])) := hid ⟨_, _, rfl, by omega, by omega, HK1.out.b2, HB7.out⟩
        have HT : Hid ([] ++ [Ag.nam] ++ [Ag.kds] ++ (nums.take (k + 1)).map (fun r : Int × Int => Ag.num r.1 r.2) = [] ++ [Ag.nam] ++ [Ag.kds] ++ (nums.take k).map (fun r : Int × Int => Ag.num r.1 r.2) ++ [Ag.num nums[k].1 nums[k].2]) := hid (by
          rw [List.take_succ_eq_append_getElem hlt, List.map_append]
          simp)
        have hll : ([] ++ [Ag.nam] ++ [Ag.kds] ++ (nums.take k).map (fun r : Int × Int => Ag.num r.1 r.2)).length ≤ 1000 := by simp <;> omega
        have HLl := hid hll
        clear hc k1 HK HB7 hll
        go_wp2_with (first | (at_builtin; refine ar_append HK1 HLl.out rfl rfl rfl rfl (by simp) rfl HV.out ?_; intro A9 c9 W9 HI9) | fail)
        go_roundw
        case rel => exact ⟨k + 1, _, by omega, by go_num, hid (by rw [HT.out]; simpa using HI9.out)⟩
        case measure => simp [intOf]; omega
      · have HT : Hid ([] ++ [Ag.nam] ++ [Ag.kds] ++ (nums.take k).map (fun r : Int × Int => Ag.num r.1 r.2) = [] ++ [Ag.nam] ++ [Ag.kds] ++ nums.map (fun r : Int × Int => Ag.num r.1 r.2)) := hid (by rw [List.take_of_length_le (by omega)])
        rw [HT.out] at HK
        have hfl := HK.out.ag.1
        clear HT hfl
        cases rr <;> cases qq
        all_goals
          go_wp2_with (first | (at_builtin; (first | refine ar_append (ag := .nam) (by assumption) (by simp <;> omega) rfl rfl rfl rfl (by simp) rfl rfl ?_ | refine ar_append (ag := .kds) (by assumption) (by simp <;> omega) rfl rfl rfl rfl (by simp) rfl rfl ?_ | refine ar_append (ag := .rqb) (by assumption) (by simp <;> omega) rfl rfl rfl rfl (by simp) rfl rfl ?_ | refine ar_append (ag := .row) (by assumption) (by simp <;> omega) rfl rfl rfl rfl (by simp) rfl rfl ?_ | refine ar_append (ag := .qry) (by assumption) (by simp <;> omega) rfl rfl rfl rfl (by simp) rfl rfl ?_); intro A9 c9 W9 HI9; obtain ⟨c2, c30, c31, c32, c33, c34, hsz2⟩ := HI9.out.cells) | fail)
          go_ret
          first | exact HI9.out.done2 (by simp [argsF]) | (have h9 := HI9.out.done2 (by simp [argsF]); simpa using h9) | exact HK.out.done2 (by simp [argsF])
end
end
end Go.Proofs.YtjhnopnppimnhaaGreatDoor
