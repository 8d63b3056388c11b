/-
  PARTS of a claim, merged by segs.py: Sk10, Cm2.
-/
import Derived.Test.YtjhnopnppimnhaaGreatDoorZ34
import Derived.Test.YtjhnopnppimnhaaGreatDoorZ14
import Derived.Laws.EntriesVeiled
namespace Go.Proofs.YtjhnopnppimnhaaGreatDoor

/-! ### Sk10 -/
section
open Go.RowKit

theorem infoCmd : (Tryz.prog.info? 35).map (·.size) = some 6 := by kernel_rfl
/-- A command's rows, of the call's own. -/
def OwnCm (w : World) (B : Nat) (u v : Value) (c : Cm) : Prop := w.ownsRow B 2 1 u c.nums.length (c.nums.map (Value.int .i64)) ∧ w.ownsRow B 67 3 v c.row.length (flat c.row)
theorem OwnCm.mono {w : World} {B B' : Nat} {u v : Value} {c : Cm} (h : OwnCm w B' u v c) (hB : B ≤ B') : OwnCm w B u v c := ⟨ren_mono h.1 hB, ren_mono h.2 hB⟩
theorem OwnCm.far {w w' : World} {B t : Nat} {u v : Value} {c : Cm} (h : OwnCm w B u v c) (hg : w.grownBy w' (some t)) (ht : t < B) : OwnCm w' B u v c := ⟨ren_far h.1 hg ht, ren_far h.2 hg ht⟩
theorem OwnCm.below {w w' : World} {B : Nat} {u v : Value} {c : Cm} (h : OwnCm w B u v c) (hb : Below w.heap.size w w') : OwnCm w' B u v c := ⟨own_belowS h.1 hb, own_belowS h.2 hb⟩
theorem OwnCm.zero {w : World} {B : Nat} : OwnCm w B (.slice none 0 0) (.slice none 0 0) C0 := ⟨World.ownsRow_nil _ _ _ _, World.ownsRow_nil _ _ _ _⟩
abbrev cmA (n : Int) (c : Cm) (u v : Value) : Array Value := #[.int .i64 n, .int .i64 c.op, .string ⟨c.name.toArray⟩, u, v, .string ⟨c.query.toArray⟩]
/-- What parseLine answers. -/
def RetCm (w : World) (x : Cm × Int) (e : Ending) (w' : World) : Prop :=
  ∃ u v, e = .returned (.tuple #[.agg (cmA 0 x.1 u v), .int .i64 x.2]) ∧ OwnCm w' w.heap.size u v x.1 ∧ x.1.nums.length ≤ 65537 ∧ Below w.heap.size w w'
theorem retCm_zero {w w' : World} {e : Int} (h : Below w.heap.size w w') : RetCm w (C0, e) (.returned (.tuple #[.agg #[.int .i64 0, .int .i64 0, .string ⟨#[]⟩, .slice none 0 0, .slice none 0 0, .string ⟨#[]⟩], .int .i64 e])) w' :=
  ⟨_, _, rfl, OwnCm.zero, Nat.zero_le _, h⟩
/-- A row of closures. -/
def FnsAt (w : World) (A : Option Addr) (fs : List Value) : Prop :=
  0 < fs.length → ∃ b o, A = some ⟨b, o, none⟩ ∧ ∀ i (h : i < fs.length), w.cell? ⟨b, o + i, none⟩ = some fs[i]
theorem fns_own {w : World} {B c : Nat} {A : Option Addr} {fs : List Value} (h : w.ownsRow B 80 1 (.slice A fs.length c) fs.length fs) : FnsAt w A fs := fun hp => by
  rcases h.2 with ⟨h1, h0⟩ | ⟨g, cap, cur, h1, hB, hh, hn, hm, hs, ht⟩
  · omega
  · injection h1 with h1 _ _
    refine ⟨g, 0, h1, fun i hi => ?_⟩
    rw [box_cell hh, Nat.zero_add]
    rw [Nat.mul_one] at ht
    have h2 : (cur.toList.take fs.length)[i]? = some fs[i] := by rw [ht]; exact List.getElem?_eq_getElem hi
    rw [List.getElem?_take_of_lt hi] at h2
    simpa using h2
theorem line_op {l a r : Str} {m : Bool} (hc : cutL 32 l = (a, r, m)) : lineS l = if 20 ≤ opOf a then (C0, 7) else if (runA (argsF (shpOf (opOf a))) ⟨r, !m, ⟨opOf a, [], [], [], []⟩⟩).2 ≠ 0 then (C0, (runA (argsF (shpOf (opOf a))) ⟨r, !m, ⟨opOf a, [], [], [], []⟩⟩).2) else if (runA (argsF (shpOf (opOf a))) ⟨r, !m, ⟨opOf a, [], [], [], []⟩⟩).1.ended = true then ((runA (argsF (shpOf (opOf a))) ⟨r, !m, ⟨opOf a, [], [], [], []⟩⟩).1.c, 0) else (C0, 15) := by
  unfold lineS; rw [hc]
theorem runA_at {L : List Ag} {k : Nat} (h : k < L.length) (s : Sn) : runA (L.drop k) s = if (scanA L[k] s).2 = 0 then runA (L.drop (k + 1)) (scanA L[k] s).1 else scanA L[k] s := by
  rw [List.drop_eq_getElem_cons h, runA_cons]

set_option maxRecDepth 100000 in
set_option maxHeartbeats 8000000 in
theorem scr_line (s : ByteArray) (w : World) (hE : EnvS w) (hs : s.size ≤ 65536) {x : Cm × Int} (hx : lineS s.data.toList = x) :
    Calls Tryz.prog 19 #[.string s] w (RetCm w x) := by
  obtain ⟨a, r, m, hc⟩ : ∃ a r m, cutL 32 s.data.toList = (a, r, m) := ⟨_, _, _, rfl⟩
  rw [line_op hc] at hx
  have hcl := cutL_len 32 s.data.toList
  have hls := len_b s
  rw [hc, hls] at hcl
  simp only at hcl
  have k0 := below_one w (.cells #[.int .i64 0, .int .i64 0, .string ⟨#[]⟩, .slice none 0 0, .slice none 0 0, .string ⟨#[]⟩] 35)
  have hz := heap_alloc_new w (.cells #[.int .i64 0, .int .i64 0, .string ⟨#[]⟩, .slice none 0 0, .slice none 0 0, .string ⟨#[]⟩] 35)
  have HC := hid (cut_sp s (w.alloc (.cells #[.int .i64 0, .int .i64 0, .string ⟨#[]⟩, .slice none 0 0, .slice none 0 0, .string ⟨#[]⟩] 35)) (by omega) hc)
  obtain ⟨op, hop⟩ : ∃ op, opOf a = op := ⟨_, rfl⟩
  rw [hop] at hx
  by_cases h20 : 20 ≤ op
  · rw [if_pos h20] at hx
    subst hx
    have HN := hid (fun W (k : Below w.heap.size w W) => scr_number ⟨a.toArray⟩ W (hE.nam.below k) (x := -1) (by show (if opOf a < 20 then (opOf a : Int) else -1) = -1; rw [hop, if_neg (by omega)]))
    clear hE hc hcl hls hop h20
    go_enter Tryz.func19, Tryz.ntmps19
    go_wp2_with fail
    refine HC.out.mono ?_
    rintro e w1 ⟨rfl, b1⟩
    have k1 := k0.trans (b1.mono k0.size)
    have hz1 := res_keep hz b1 (by simp)
    have HN1 := hid (HN.out w1 k1)
    clear HC HN b1
    go_wp2_with fail
    refine HN1.out.mono ?_
    rintro e w2 ⟨rfl, rfl⟩
    clear HN1
    go_wp2_with (refine wpList_store_res rfl rfl rfl rfl hz1 infoCmd rfl rfl ?_; intro w9 hz9 hb9)
    refine bodyPost_ret (by simp [results, Tryz.results19, go_sem, cell_res hz9]; rfl) rfl ?_
    exact retCm_zero (k1.trans hb9)
  · rw [if_neg h20] at hx
    have hlt20 : op < 20 := by omega
    have HN := hid (fun W (k : Below w.heap.size w W) => scr_number ⟨a.toArray⟩ W (hE.nam.below k) (x := op) (by show (if opOf a < 20 then (opOf a : Int) else -1) = op; rw [hop, if_pos hlt20]))
    obtain ⟨X, hX⟩ : ∃ X, runA (argsF (shpOf op)) ⟨r, !m, ⟨op, [], [], [], []⟩⟩ = X := ⟨_, rfl⟩
    rw [hX] at hx
    have HX := hid hx
    have HR : Hid (runA ((argsF (shpOf op)).drop 0) ⟨r, !m, ⟨op, [], [], [], []⟩⟩ = X) := hid hX
    have HSh := fun W => hid (shape_of hlt20 W)
    have HE := hid hE.env
    have hshl : ∀ i : Fin 20, (shpOf i.val).nums.length ≤ 100 := by decide
    have HAr := hid (fun sp A c W (h1 : sp < W.heap.size) (h2 : SpnAt W A (shpOf op).nums) => skn_arguments (shpOf op) A c h1 h2 (hshl ⟨op, hlt20⟩))
    have hfew : (Sn.left ⟨r, !m, ⟨op, [], [], [], []⟩⟩).length ≤ 65537 := by
      unfold Sn.left
      cases m with
      | true => simp; omega
      | false => simp
    clear hE hc hcl hls hop h20 hx hX hshl
    go_enter Tryz.func19, Tryz.ntmps19
    go_wp2_with fail
    refine HC.out.mono ?_
    rintro e w1 ⟨rfl, b1⟩
    have k1 := k0.trans (b1.mono k0.size)
    have hz1 := res_keep hz b1 (by simp)
    have HN1 := hid (HN.out w1 k1)
    have hl1 := lt_of_block hz1
    clear HC HN b1 hz k0
    go_wp2_with fail
    refine HN1.out.mono ?_
    rintro e w2 ⟨rfl, rfl⟩
    clear HN1
    -- the scanner's box
    obtain ⟨W2, hW2⟩ : ∃ W2, w1.alloc (.cells (scaC r (!m) op [] (.slice none 0 0) (.slice none 0 0) []) 71) = W2 := ⟨_, rfl⟩
    have P2 := hid (show SW w1.heap.size ⟨r, !m, ⟨op, [], [], [], []⟩⟩ W2 from by
      rw [← hW2]
      exact ⟨⟨_, _, heap_alloc_new w1 _, World.ownsRow_nil _ _ _ _, World.ownsRow_nil _ _ _ _⟩, by simpa using hfew⟩)
    have k2 : Below w1.heap.size w1 W2 := by rw [← hW2]; exact below_one w1 _
    have hs2 : W2.heap.size = w1.heap.size + 1 := by rw [← hW2]; simp
    have HZ2 := hid ((k2.block _ hl1).trans hz1)
    have K2 := hid (k1.trans (k2.mono k1.size))
    have HW2 := hid hW2
    have HSh2 := hid (HSh W2).out
    clear hW2 k2 hz1 HSh hfew
    go_wp2_with (first | rw [HW2.out] | fail)
    refine HSh2.out.mono ?_
    rintro e w3 ⟨A3, c3, rfl, hsp3, hsc3, b3⟩
    have P3 := hid (P2.out.below b3)
    have HZ3 := hid ((b3.block _ (lt_of_block HZ2.out)).trans HZ2.out)
    have K3 := hid (K2.out.trans (b3.mono K2.out.size))
    have HA3 := hid (HAr.out w1.heap.size A3 c3 w3 P3.out.lt hsp3)
    have hs3 : w1.heap.size < w3.heap.size := P3.out.lt
    clear HSh2 P2 HZ2 K2 b3 hsp3 HAr
    go_wp2_with fail
    refine HA3.out.mono ?_
    rintro e w4 ⟨A4, c4, fs, rfl, hown4, hag4, b4⟩
    have P4 := hid (P3.out.below b4)
    have HZ4 := hid ((b4.block _ (lt_of_block HZ3.out)).trans HZ3.out)
    have K4 := hid (K3.out.trans (b4.mono K3.out.size))
    have hB4 : w1.heap.size < w4.heap.size := P4.out.lt
    have HF := hid (fun W (k : ScC w1.heap.size w4 W) => fns_own (k.own hown4 hs3 (by decide)))
    have HG := hid (fun W (k : ScC w1.heap.size w4 W) => hag4.scc k)
    have hlen := hag4.1
    have hle : fs.length ≤ 1000 := by
      have : ∀ i : Fin 20, (argsF (shpOf i.val)).length ≤ 1000 := by decide
      rw [hlen]; exact this ⟨op, hlt20⟩
    clear HA3 P3 HZ3 K3 b4 hown4 hag4 HW2
    generalize argsF (shpOf op) = L at *
    have HLn := hid hlen
    obtain ⟨sp, hsp⟩ : ∃ sp, w1.heap.size = sp := ⟨_, rfl⟩
    rw [hsp] at P4 HF HG hB4 hl1 hs3 hs2
    have HSp := hid (show w.heap.size < sp from hl1)
    clear hlen
    simp only [hsp]
    clear hsp
    go_wp2
    go_loopw [35] (fun i wr => ∃ (k : Nat) (t : Sn), k ≤ fs.length ∧ i = .int .i64 k ∧ Hid (SW sp t wr) ∧ Hid (ScC sp w4 wr) ∧ Hid (runA (L.drop k) t = X)) (fun i _ => fs.length - (intOf i).toNat)
    case atStart => exact ⟨0, _, by omega, rfl, P4, hid (ScC.refl _ _), HR⟩
    case round =>
      obtain ⟨k, t, hk, rfl, P5, K5, HR5⟩ := hrel
      clear P4 HR
      have hwB : w.heap.size ≤ w4.heap.size := K4.out.size
      have HZ5 := hid ((K5.out.block _ (lt_of_block HZ4.out) (by omega) (.inl HSp.out)).trans HZ4.out)
      have KB := hid (K4.out.trans (K5.out.below (B := w.heap.size) (by omega) hwB))
      by_cases hlt : k < fs.length
      · have hltL : k < L.length := by rw [← HLn.out]; exact hlt
        obtain ⟨b, o, rfl, hc⟩ := HF.out wr K5.out (by omega)
        have c0 := hc k hlt
        have hag := (HG.out wr K5.out).2 k hltL hlt
        have hr := HR5.out
        rw [runA_at hltL] at hr
        obtain ⟨v, hv⟩ : ∃ v, fs[k] = v := ⟨_, rfl⟩
        rw [hv] at c0 hag
        generalize L[k] = ag at *
        have k1 := below_one wr (.cells #[v] 80)
        have HCa := hid ((hag.below k1).call (P5.out.below k1) ⟨w, HE.out, by omega, KB.out.trans (k1.mono KB.out.size)⟩)
        have K6 := hid (K5.out.then k1)
        have HZ6 := hid ((k1.block _ (lt_of_block HZ5.out)).trans HZ5.out)
        have KB6 := hid (KB.out.trans (k1.mono KB.out.size))
        obtain ⟨⟨t2, e2⟩, hy⟩ : ∃ y, scanA ag t = y := ⟨_, rfl⟩
        rw [hy] at hr HCa
        simp only at hr
        have HR6 := hid hr
        have hwr0 := K5.out.size
        clear hc hag hv hr hy k1 HF HG HR5 P5 K5 HZ5 KB
        have hwr : sp ≤ wr.heap.size := by omega
        by_cases h0 : e2 = 0
        · subst h0
          have HR7 := hid HR6.out
          rw [if_pos rfl] at HR7
          clear HR6
          rcases HCa.out with ⟨fe, p, rfl, hcf, HCall⟩ | ⟨fe, p, q, rfl, hcf, HCall⟩
          all_goals
            have HCall := hid HCall
            clear HCa
            go_wp2_with fail
            refine HCall.out.mono ?_
            rintro e w6 ⟨rfl, p6, k6⟩
            have P7 := hid p6
            have K7 := hid (K6.out.trans k6)
            clear HCall p6 k6 hcf
            go_wp2_with fail
            go_roundw
            case rel => exact ⟨k + 1, t2, by omega, by go_num, P7, K7, HR7⟩
            case measure => simp [intOf]; omega
        · have hxx : X = (t2, e2) := by rw [← HR6.out, if_neg h0]
          have hx2 : x = (C0, e2) := by rw [← HX.out, hxx]; simp [h0]
          subst hx2
          have hb0 : (e2 != 0) = true := by simpa using h0
          clear HR6 hxx HX h0
          rcases HCa.out with ⟨fe, p, rfl, hcf, HCall⟩ | ⟨fe, p, q, rfl, hcf, HCall⟩
          all_goals
            have HCall := hid HCall
            clear HCa
            go_wp2_with fail
            refine HCall.out.mono ?_
            rintro e w6 ⟨rfl, p6, k6⟩
            have hz7 := (k6.block _ (lt_of_block HZ6.out) (by omega) (.inl HSp.out)).trans HZ6.out
            have KB7 := hid (KB6.out.trans (k6.below (B := w.heap.size) (by omega) KB6.out.size))
            clear HCall p6 k6 hcf
            go_wp2_with (refine wpList_store_res rfl rfl rfl rfl hz7 infoCmd rfl rfl ?_; intro w9 hz9 hb9)
            refine bodyPost_ret (by simp [results, Tryz.results19, go_sem, cell_res hz9]; rfl) rfl ?_
            exact retCm_zero (KB7.out.trans hb9)
      · have hxx : X = (t, 0) := by
          rw [← HR5.out, List.drop_eq_nil_of_le (by rw [← HLn.out]; omega)]; rfl
        have hx2 : x = if t.ended = true then (t.c, 0) else (C0, 15) := by rw [← HX.out, hxx]; simp
        have hlt5 := P5.out.lt
        obtain ⟨d0, d1, -⟩ := P5.out.cells
        have hz5 := HZ5.out
        clear HR5 hxx HX HF HG
        cases he : t.ended with
        | false =>
          rw [he] at hx2 d1
          rw [if_neg (by decide)] at hx2
          subst hx2
          go_wp2_with (refine wpList_store_res rfl rfl rfl rfl hz5 infoCmd rfl rfl ?_; intro w9 hz9 hb9)
          refine bodyPost_ret (by simp [results, Tryz.results19, go_sem, cell_res hz9]; rfl) rfl ?_
          exact retCm_zero (KB.out.trans hb9)
        | true =>
          rw [he] at hx2 d1
          rw [if_pos rfl] at hx2
          subst hx2
          obtain ⟨⟨u, v, hb, hu, hv⟩, hfew⟩ := P5.out
          have q2 := box_cell hb 2
          have q3 := box_cell hb 3
          have q4 := box_cell hb 4
          have q5 := box_cell hb 5
          have q6 := box_cell hb 6
          have q7 := box_cell hb 7
          have HU := hid (show OwnCm wr (sp + 1) u v t.c from ⟨hu, hv⟩)
          obtain ⟨Au, cu, rfl⟩ := own_sl hu
          obtain ⟨Av, cv, rfl, -, -⟩ := own_rowc hv
          have hnl : t.c.nums.length ≤ 65537 := by omega
          clear hb hu hv he hfew
          go_wp2_with (refine wpList_stored2 rfl rfl rfl rfl hz5 infoCmd rfl rfl ?_; intro w9 hz9 hg9)
          refine bodyPost_ret (by simp [results, Tryz.results19, go_sem, cell_res hz9]; rfl) rfl ?_
          exact ⟨_, _, rfl, (HU.out.far hg9 (by omega)).mono (by omega), hnl, KB.out.trans (grown_below' hg9 (Nat.le_refl _) KB.out.size)⟩
end

/-! ### Cm2 -/
section

theorem all_left {s : Sn} {x y : Str} (h : s.left = (32 :: x) ++ y) (hp : s.left.all prnB = true) : x.all prnB = true ∧ y.all prnB = true := by
  rw [h, List.cons_append, List.all_cons, List.all_append] at hp
  simp only [Bool.and_eq_true] at hp
  exact hp.2
theorem all_flat {s : Sn} {x y : Str} (h : s.left = x ++ y) (hp : s.left.all prnB = true) : y.all prnB = true := by
  rw [h, List.all_append] at hp
  simp only [Bool.and_eq_true] at hp
  exact hp.2
/-- What the five groups of arguments read, one behind the other. -/
theorem args_read {f : Shp} {op : Nat} {s : Sn} (hk : f.kinds = true → f.nums = [] ∧ f.row = false ∧ f.query = false) (hs : s.c = ⟨op, [], [], [], []⟩) (hp : s.left.all prnB = true) (h : (runA (argsF f) s).2 = 0) (he : (runA (argsF f) s).1.ended = true) :
    ∃ (nm : Str) (ns : List Int) (r : List V) (q : Str), (runA (argsF f) s).1.c = ⟨op, nm, ns, r, q⟩ ∧
      s.left = flat32 ((if f.name = true then [nm] else []) ++ (ns.map (if f.kinds = true then numT 0 else Lib.itoa) ++ ((if f.row = true then [rowTextL r] else []) ++ (if f.query = true then [q] else [])))) ∧
      (f.kinds = false → ns.length = f.nums.length ∧ rangesB ns f.nums = true) ∧ (f.name = true → catB nm = true) ∧ (f.kinds = true → ns.length ≤ 6 ∧ ∀ n ∈ ns, n = 1 ∨ n = 2) ∧ (∀ n ∈ ns, I64 n) ∧
      (f.row = true → (∀ v ∈ r, v.valid = true ∧ I64 v.n) ∧ (rowTextL r).all prnB = true) ∧ (f.query = true → accB q = true ∧ q ≠ []) ∧ (f.name = false → nm = []) ∧ (f.row = false → r = []) ∧ (f.query = false → q = []) := by
  unfold argsF at *
  -- the name
  obtain ⟨h1, e1⟩ := runA_app _ _ _ h
  rw [e1] at h he ⊢
  obtain ⟨s1, hs1⟩ : ∃ s1, (runA (if f.name = true then [Ag.nam] else []) s).1 = s1 := ⟨_, rfl⟩
  have n1 : ∃ nm, s1.c = ⟨op, nm, [], [], []⟩ ∧ s.left = flat32 (if f.name = true then [nm] else []) ++ s1.left ∧ (f.name = true → catB nm = true) ∧ (f.name = false → nm = []) := by
    cases hn : f.name with
    | false =>
      rw [hn] at hs1
      simp only [Bool.false_eq_true, if_false] at hs1 ⊢
      have : s1 = s := hs1.symm
      exact ⟨[], by rw [this, hs], by rw [this]; rfl, fun h => absurd h (by decide), fun _ => rfl⟩
    | true =>
      rw [hn] at hs1 h1
      simp only [if_true] at hs1 h1 ⊢
      obtain ⟨a1, a2⟩ := runA_one _ _ h1
      rw [a2] at hs1
      obtain ⟨b1, b2, b3⟩ := name_read (s := s) a1
      have hs1' : s.nameS.1 = s1 := hs1
      rw [hs1'] at b1 b2 b3
      exact ⟨s1.c.name, by rw [b3, hs], by rw [b1]; simp [flat32], fun _ => b2, fun h => absurd h (by decide)⟩
  rw [hs1] at h he ⊢
  obtain ⟨nm, c1, l1, t1, u1⟩ := n1
  have p1 := all_flat l1 hp
  clear e1 h1 hs1
  -- the kinds
  obtain ⟨h1, e1⟩ := runA_app _ _ _ h
  rw [e1] at h he ⊢
  obtain ⟨s2, hs2⟩ : ∃ s2, (runA (if f.kinds = true then [Ag.kds] else []) s1).1 = s2 := ⟨_, rfl⟩
  have n2 : ∃ ks : List Int, s2.c = ⟨op, nm, ks, [], []⟩ ∧ s1.left = flat32 (ks.map (numT 0)) ++ s2.left ∧ (f.kinds = true → ks.length ≤ 6 ∧ ∀ n ∈ ks, n = 1 ∨ n = 2) ∧ (f.kinds = false → ks = []) := by
    cases hn : f.kinds with
    | false =>
      rw [hn] at hs2
      simp only [Bool.false_eq_true, if_false] at hs2 ⊢
      have : s2 = s1 := hs2.symm
      exact ⟨[], by rw [this, c1], by rw [this]; rfl, fun h => absurd h (by decide), fun _ => rfl⟩
    | true =>
      rw [hn] at hs2 h1
      simp only [if_true] at hs2 h1 ⊢
      obtain ⟨a1, a2⟩ := runA_one _ _ h1
      rw [a2] at hs2
      have hs2' : (kindsS (s1.rest.length + 2) s1).1 = s2 := hs2
      obtain ⟨l, b1, b2, b3, b4, b5⟩ := kinds_read (f := s1.rest.length + 2) (s := s1) (.inl (Nat.le_refl _)) a1 (by rw [c1]; simp) (by rw [c1]; simp)
      rw [hs2'] at b2 b5
      rw [c1] at b3 b4 b5
      refine ⟨l, by rw [b5]; simp, ?_, fun _ => ⟨by simpa using b4, by simpa using b3⟩, fun h => absurd h (by decide)⟩
      rw [b1]
      unfold Sn.left
      rw [if_pos b2, List.append_nil]
  rw [hs2] at h he ⊢
  obtain ⟨ks, c2, l2, t2, u2⟩ := n2
  have p2 := all_flat l2 p1
  clear e1 h1 hs2
  -- the numbers
  obtain ⟨h1, e1⟩ := runA_app _ _ _ h
  rw [e1] at h he ⊢
  obtain ⟨ns, l3, t3, t4, t5, c3⟩ := nums_read f.nums s2 h1
  obtain ⟨s3, hs3⟩ : ∃ s3, (runA (f.nums.map fun r => Ag.num r.1 r.2) s2).1 = s3 := ⟨_, rfl⟩
  rw [hs3] at h he l3 c3 ⊢
  rw [c2] at c3
  have p3 := all_flat l3 p2
  clear e1 h1 hs3
  -- the row
  obtain ⟨h1, e1⟩ := runA_app _ _ _ h
  rw [e1] at h he ⊢
  obtain ⟨s4, hs4⟩ : ∃ s4, (runA (if f.row = true then (if f.query = true then [Ag.rqb] else [Ag.row]) else []) s3).1 = s4 := ⟨_, rfl⟩
  have n4 : ∃ r : List V, s4.c = ⟨op, nm, ks ++ ns, r, []⟩ ∧ s3.left = flat32 (if f.row = true then [rowTextL r] else []) ++ s4.left ∧ (f.row = true → (∀ v ∈ r, v.valid = true ∧ I64 v.n) ∧ (rowTextL r).all prnB = true) ∧ (f.row = false → r = []) := by
    cases hn : f.row with
    | false =>
      rw [hn] at hs4
      simp only [Bool.false_eq_true, if_false] at hs4 ⊢
      have : s4 = s3 := hs4.symm
      exact ⟨[], by rw [this, c3], by rw [this]; rfl, fun h => absurd h (by decide), fun _ => rfl⟩
    | true =>
      rw [hn] at hs4 h1
      simp only [if_true] at hs4 h1 ⊢
      cases hq : f.query with
      | true =>
        rw [hq] at hs4 h1
        simp only [if_true] at hs4 h1
        obtain ⟨a1, a2⟩ := runA_one _ _ h1
        rw [a2] at hs4
        have hs4' : s3.rqbS.1 = s4 := hs4
        obtain ⟨r, b1, b2, b3⟩ := rqb_read (s := s3) a1
        rw [hs4'] at b1 b3
        rw [c3] at b3
        exact ⟨r, b3, by rw [b1]; simp [flat32], fun _ => ⟨b2, (all_left b1 p3).1⟩, fun h => absurd h (by decide)⟩
      | false =>
        rw [hq] at hs4 h1
        simp only [Bool.false_eq_true, if_false] at hs4 h1
        obtain ⟨a1, a2⟩ := runA_one _ _ h1
        rw [a2] at hs4
        have hs4' : (s3.tail.2.setRow s3.tail.1).1 = s4 := hs4
        obtain ⟨r, b1, b2, b3⟩ := row_read (s := s3) a1
        rw [hs4'] at b1 b3
        rw [c3] at b3
        exact ⟨r, b3, by rw [b1]; simp [flat32], fun _ => ⟨b2, (all_left b1 p3).1⟩, fun h => absurd h (by decide)⟩
  rw [hs4] at h he ⊢
  obtain ⟨r, c4, l4, t6, u4⟩ := n4
  clear e1 h1 hs4
  -- the query
  obtain ⟨s5, hs5⟩ : ∃ s5, (runA (if f.query = true then [Ag.qry] else []) s4).1 = s5 := ⟨_, rfl⟩
  have n5 : ∃ q : Str, s5.c = ⟨op, nm, ks ++ ns, r, q⟩ ∧ s4.left = flat32 (if f.query = true then [q] else []) ++ s5.left ∧ (f.query = true → accB q = true ∧ q ≠ []) ∧ (f.query = false → q = []) := by
    cases hn : f.query with
    | false =>
      rw [hn] at hs5
      simp only [Bool.false_eq_true, if_false] at hs5 ⊢
      have : s5 = s4 := hs5.symm
      exact ⟨[], by rw [this, c4], by rw [this]; rfl, fun h => absurd h (by decide), fun _ => rfl⟩
    | true =>
      rw [hn] at hs5 h
      simp only [if_true] at hs5 h ⊢
      obtain ⟨a1, a2⟩ := runA_one _ _ h
      rw [a2] at hs5
      have hs5' : s4.qryS.1 = s5 := hs5
      obtain ⟨b1, b2, b4, b3⟩ := qry_read (s := s4) a1
      rw [hs5'] at b1 b2 b3 b4
      exact ⟨s5.c.query, by rw [b3, c4], by rw [b1]; simp [flat32], fun _ => ⟨b2, b4⟩, fun h => absurd h (by decide)⟩
  rw [hs5] at he ⊢
  obtain ⟨q, c5, l5, t7, u5⟩ := n5
  have l6 : s5.left = [] := by unfold Sn.left; rw [if_pos he]
  have hns : f.kinds = true → ns = [] := fun hk' => by
    rw [(hk hk').1] at t3
    simpa using t3
  refine ⟨nm, ks ++ ns, r, q, c5, ?_, ?_, t1, ?_, ?_, t6, t7, u1, u4, u5⟩
  · rw [l1, l2, l3, l4, l5, l6]
    cases hkk : f.kinds with
    | true => rw [hns hkk]; simp [flat32]
    | false => rw [u2 hkk]; simp [flat32]
  · intro hkk
    rw [u2 hkk]
    exact ⟨by simpa using t3, by simpa using t4⟩
  · intro hkk
    rw [hns hkk, List.append_nil]
    exact t2 hkk
  · intro n hn
    rcases List.mem_append.1 hn with hn | hn
    · cases hkk : f.kinds with
      | true =>
        have := (t2 hkk).2 n hn
        unfold I64
        omega
      | false => rw [u2 hkk] at hn; cases hn
    · exact t5 n hn
theorem shp_kinds (op : Nat) : ((shpOf op).kinds = true ↔ op = 0) ∧ ((shpOf op).kinds = true → (shpOf op).nums = [] ∧ (shpOf op).row = false ∧ (shpOf op).query = false) := by
  unfold shpOf
  by_cases h : op = 0
  · rw [if_pos h]; exact ⟨⟨fun _ => h, fun _ => rfl⟩, fun _ => ⟨rfl, rfl, rfl⟩⟩
  · rw [if_neg h]
    have : ∀ s : Shp, s.kinds = false → ((s.kinds = true ↔ op = 0) ∧ (s.kinds = true → s.nums = [] ∧ s.row = false ∧ s.query = false)) := fun s hs => ⟨⟨fun h2 => absurd (hs.symm.trans h2) (by decide), fun h2 => absurd h2 h⟩, fun h2 => absurd (hs.symm.trans h2) (by decide)⟩
    apply this
    repeat (first | rfl | split)
/-- A line's command is a good one, and its text is the line. -/
theorem line_back {l : Str} {c : Cm} (hp : l.all prnB = true) (h : lineS l = (c, 0)) : textC c = l ++ [10] ∧ CmOk c := by
  unfold lineS at h
  split at h
  · exact absurd (congrArg Prod.snd h) (show ¬ (7 : Int) = 0 by decide)
  rename_i h20
  split at h
  · rename_i h0
    exact absurd (congrArg Prod.snd h) h0
  rename_i h0
  split at h
  · rename_i he
    have hc := congrArg Prod.fst h
    simp only at hc
    obtain ⟨op, hop⟩ : ∃ op, opOf (cutL 32 l).1 = op := ⟨_, rfl⟩
    rw [hop] at h20 h0 he hc
    have hlt : op < 20 := by omega
    have hleft : Sn.left ⟨(cutL 32 l).2.1, !(cutL 32 l).2.2, ⟨op, [], [], [], []⟩⟩ = if (cutL 32 l).2.2 = true then 32 :: (cutL 32 l).2.1 else [] := by
      unfold Sn.left
      cases (cutL 32 l).2.2 <;> rfl
    have hl := (cutL_eq 32 l).1
    have hpl : (Sn.left ⟨(cutL 32 l).2.1, !(cutL 32 l).2.2, ⟨op, [], [], [], []⟩⟩).all prnB = true := by
      rw [hleft]
      rw [hl, List.all_append] at hp
      simp only [Bool.and_eq_true] at hp
      exact hp.2
    obtain ⟨nm, ns, r, q, e1, e2, e3, e4, e5, e6, e7, e8, e9, e10, e11⟩ := args_read (f := shpOf op) (op := op) (shp_kinds op).2 rfl hpl (by simpa using h0) he
    rw [e1] at hc
    subst hc
    refine ⟨?_, hlt, fun h => (e3 h).1, e4, e5, fun h => (e3 h).2, e6, e7, e8, e9, e10, e11⟩
    have hw : nam6.getD op [] = (cutL 32 l).1 := by
      have hx : nam6.findIdx (· == (cutL 32 l).1) < nam6.length := by
        show opOf (cutL 32 l).1 < 20
        omega
      have := List.findIdx_getElem (w := hx)
      have h2 : nam6[nam6.findIdx (· == (cutL 32 l).1)] = (cutL 32 l).1 := by simpa using this
      rw [List.getD_eq_getElem?_getD, ← hop]
      show (nam6[nam6.findIdx (· == (cutL 32 l).1)]?).getD [] = _
      rw [List.getElem?_eq_getElem hx]
      exact h2
    unfold textC
    have e12 : flat32 (partsC ⟨op, nm, ns, r, q⟩) = if (cutL 32 l).2.2 = true then 32 :: (cutL 32 l).2.1 else [] := by
      rw [← hleft, e2]
      unfold partsC
      have hnt : (if (shpOf op).kinds = true then numT 0 else Lib.itoa) = numT op := by
        by_cases h : op = 0
        · rw [if_pos ((shp_kinds op).1.2 h), h]
        · rw [if_neg (fun h2 => h ((shp_kinds op).1.1 h2))]
          funext n
          unfold numT
          rw [if_neg h]
      rw [hnt]
    simp only
    rw [e12, hw, ← hl]
  · exact absurd (congrArg Prod.snd h) (show ¬ (15 : Int) = 0 by decide)

/-- The lines of a text; the last one is empty if it ends with a line feed. -/
def splitL : Str → List Str
  | [] => [[]]
  | x :: l => if x = 10 then [] :: splitL l else match splitL l with
    | [] => [[x]]
    | y :: r => (x :: y) :: r
theorem splitL_lf (l : Str) : splitL (10 :: l) = [] :: splitL l := by
  conv => lhs; unfold splitL
  rw [if_pos rfl]
theorem splitL_other {x : UInt8} (h : x ≠ 10) {l y : Str} {r : List Str} (e : splitL l = y :: r) : splitL (x :: l) = (x :: y) :: r := by
  conv => lhs; unfold splitL
  rw [if_neg h, e]
theorem splitL_ne : ∀ l : Str, splitL l ≠ []
  | [] => by simp [splitL]
  | x :: l => by
    unfold splitL
    split
    · simp
    · split <;> simp
theorem splitL_no {a : Str} (h : (10 : UInt8) ∉ a) : splitL a = [a] := by
  induction a with
  | nil => rfl
  | cons x a ih =>
    have h1 : x ≠ 10 := fun e => h (by simp [e])
    have h2 : (10 : UInt8) ∉ a := fun e => h (by simp [e])
    exact splitL_other h1 (ih h2)
theorem splitL_app {a r : Str} (h : (10 : UInt8) ∉ a) : splitL (a ++ 10 :: r) = a :: splitL r := by
  induction a with
  | nil => exact splitL_lf r
  | cons x a ih =>
    have h1 : x ≠ 10 := fun e => h (by simp [e])
    have h2 : (10 : UInt8) ∉ a := fun e => h (by simp [e])
    exact splitL_other h1 (ih h2)
theorem splitL_cut (l : Str) : splitL l = if (cutL 10 l).2.2 = true then (cutL 10 l).1 :: splitL (cutL 10 l).2.1 else [l] := by
  obtain ⟨h1, h2⟩ := cutL_eq 10 l
  have h3 := cutL_no 10 l
  cases hm : (cutL 10 l).2.2 with
  | true =>
    rw [hm, if_pos rfl] at h1
    rw [if_pos rfl]
    have := splitL_app (r := (cutL 10 l).2.1) h3
    rw [← h1] at this
    exact this
  | false =>
    rw [hm, if_neg (by decide), List.append_nil] at h1
    rw [if_neg (by decide)]
    exact splitL_no (by rw [h1]; exact h3)
def linesT (L : List Str) : Str := L.flatMap fun y => y ++ [10]
theorem splitL_join : ∀ (L : List Str) (r : Str), (∀ y ∈ L, (10 : UInt8) ∉ y) → splitL (linesT L ++ r) = L ++ splitL r
  | [], r, _ => rfl
  | y :: L, r, h => by
    have := splitL_join L r (fun z hz => h z (List.mem_cons_of_mem _ hz))
    show splitL (((y :: L).flatMap fun y => y ++ [10]) ++ r) = _
    rw [List.flatMap_cons, List.append_assoc, List.append_assoc, List.singleton_append, splitL_app (h y (List.mem_cons_self ..))]
    show y :: splitL (linesT L ++ r) = _
    rw [this]; rfl
theorem splitL_mem : ∀ (l : Str), ∀ y ∈ splitL l, (10 : UInt8) ∉ y
  | [], y, hy => by simp [splitL] at hy; simp [hy]
  | x :: l, y, hy => by
    have ih := splitL_mem l
    by_cases hx : x = 10
    · rw [hx, splitL_lf] at hy
      rcases List.mem_cons.1 hy with rfl | hy
      · simp
      · exact ih y hy
    · have hx' : (10 : UInt8) ≠ x := fun e => hx e.symm
      match hz : splitL l with
      | [] => exact absurd hz (splitL_ne l)
      | z :: r =>
        rw [splitL_other hx hz] at hy
        rcases List.mem_cons.1 hy with rfl | hy
        · have := ih z (by rw [hz]; simp)
          simp [hx', this]
        · exact ih y (by rw [hz]; simp [hy])
theorem splitL_text : ∀ (l : Str), ∃ z, splitL l = (splitL l).dropLast ++ [z] ∧ l = linesT (splitL l).dropLast ++ z
  | [] => ⟨[], rfl, rfl⟩
  | x :: l => by
    obtain ⟨z, h1, h2⟩ := splitL_text l
    by_cases hx : x = 10
    · rw [hx, splitL_lf, List.dropLast_cons_of_ne_nil (splitL_ne l)]
      refine ⟨z, by rw [List.cons_append, ← h1], ?_⟩
      show _ = (([] : Str) ++ [10]) ++ linesT (splitL l).dropLast ++ z
      rw [List.append_assoc, ← h2]; rfl
    · match hy : splitL l with
      | [] => exact absurd hy (splitL_ne l)
      | [y] =>
        rw [splitL_other hx hy]
        rw [hy] at h1 h2
        have : y = z := by simpa using h1
        subst this
        exact ⟨x :: y, rfl, by simpa [linesT] using h2⟩
      | y :: y2 :: r =>
        rw [splitL_other hx hy]
        rw [hy, List.dropLast_cons_of_ne_nil (by simp)] at h1 h2
        rw [List.dropLast_cons_of_ne_nil (by simp)]
        refine ⟨z, ?_, ?_⟩
        · rw [List.cons_append] at h1 ⊢
          injection h1 with _ h1
          rw [← h1]
        · rw [h2]
          simp [linesT]
end
end Go.Proofs.YtjhnopnppimnhaaGreatDoor
