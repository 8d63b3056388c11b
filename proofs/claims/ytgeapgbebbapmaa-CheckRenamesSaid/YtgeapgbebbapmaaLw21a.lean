/-
  ROWS OF STRUCTS OF THE CALL'S OWN, read back; WALK: the law's atom.
-/
import Derived.Test.YtgeapgbebbapmaaChk6
namespace Go.Proofs.Ytgeapgbebbapmaa
open Go.RowKit

theorem flat_get {α : Type} {f : α → List Value} {k : Nat} (hf : ∀ x, (f x).length = k) : ∀ (l : List α) (i j : Nat) (h : i < l.length), j < k → (l.flatMap f)[i * k + j]? = (f l[i])[j]?
  | x :: l, 0, j, _, hj => by
    rw [List.flatMap_cons, List.getElem?_append_left (by rw [hf]; omega)]
    simp
  | x :: l, i + 1, j, h, hj => by
    have := flat_get hf l i j (by simpa using h) hj
    rw [List.flatMap_cons, List.getElem?_append_right (by rw [hf, Nat.add_mul]; omega), hf]
    rw [show (i + 1) * k + j - k = i * k + j by rw [Nat.add_mul]; omega]
    exact this
theorem flat_len' {α : Type} {f : α → List Value} {k : Nat} (hf : ∀ x, (f x).length = k) (l : List α) : (l.flatMap f).length = l.length * k := by
  induction l with
  | nil => simp
  | cons x l ih => rw [List.flatMap_cons, List.length_append, ih, hf, List.length_cons, Nat.add_mul]; omega
theorem own_gen {α : Type} {f : α → List Value} {k : Nat} (hf : ∀ x, (f x).length = k) {w : World} {B : Nat} {e : TypeId} {u : Value} {l : List α} (h : w.ownsRow B e k u l.length (l.flatMap f)) :
    ∃ A c, u = .slice A l.length c ∧ l.length ≤ c ∧ (0 < l.length → ∃ b o, A = some ⟨b, o, none⟩ ∧ ∀ i (h : i < l.length) j v, (f l[i])[j]? = some v → w.cell? ⟨b, o + i * k + j, none⟩ = some v) := by
  have h2 := h
  rcases h.2 with ⟨rfl, h0⟩ | ⟨g, cap, cur, rfl, _, _, hn, _⟩
  · exact ⟨none, 0, by rw [h0], by omega, fun hp => absurd hp (by omega)⟩
  · refine ⟨_, cap, rfl, hn, fun _ => ⟨g, 0, rfl, fun i hi j v hv => ?_⟩⟩
    have hj : j < k := by have := (List.getElem?_eq_some_iff.1 hv).1; rw [hf] at this; exact this
    rw [Nat.zero_add]
    have hlt : i * k + j < l.length * k := by
      have h1 : (i + 1) * k ≤ l.length * k := Nat.mul_le_mul_right k hi
      rw [Nat.add_mul] at h1
      omega
    rw [h2.cellAt _ hlt, flat_get hf l i j hi hj]
    exact hv
theorem own_trms {w : World} {B : Nat} {e : TypeId} {u : Value} {l : List Trm} (h : w.ownsRow B e 4 u l.length (l.flatMap cellsT)) : ∃ A c, u = .slice A l.length c ∧ TrmsAt w A l ∧ l.length ≤ c := by
  obtain ⟨A, c, h1, h2, h3⟩ := own_gen (f := cellsT) (k := 4) (fun _ => rfl) h
  refine ⟨A, c, h1, fun hp => ?_, h2⟩
  obtain ⟨b, o, e, hc⟩ := h3 hp
  exact ⟨b, o, e, fun i hi => ⟨hc i hi 0 _ rfl, hc i hi 1 _ rfl, hc i hi 2 _ rfl, hc i hi 3 _ rfl⟩⟩

theorem infoTrm : (Try.prog.info? 81).map (fun i => (i.zero, i.size, i.bytes)) = some (some (.agg #[.string ⟨#[]⟩, .int .i64 0, .int .i64 0, .string ⟨#[]⟩]), 4, 48) := by kernel_rfl
theorem infoAtmS : (Try.prog.info? 51).map (·.size) = some 3 := by kernel_rfl
theorem three_set {w : World} {t : Nat} {a b c x : Value} {e : TypeId} (h : w.heap[t]? = some (.cells #[a, b, c] e (0, 0))) : (w.setCell ⟨t, 2, none⟩ x).heap[t]? = some (.cells #[a, b, x] e (0, 0)) := heap_setCell_same w t 2 _ e x h

def trmOf (v : Str) : Trm := ⟨v, zV⟩
set_option maxRecDepth 100000 in
set_option maxHeartbeats 4000000 in
theorem law_atom (n : Bool) (X : ByteArray) (l : List Str) (A : Option Addr) (c : Nat) (w : World) (hl : NmsAt w A l) (hm : l.length ≤ 100000) :
    Calls Try.prog 20 #[.bool n, .string X, .slice A l.length c] w fun e w' => ∃ T c', e = .returned (.agg #[.bool n, .string X, .slice T l.length c']) ∧ TrmsAt w' T (l.map trmOf) ∧ l.length ≤ c' ∧ Below w.heap.size w w' := by
  obtain ⟨i0, hi, hz0, hz1, hz2⟩ := info_parts infoTrm
  have HL := hid hl
  have HB0 : Hid (Below (w.heap.size + 1) (w.alloc (.cells #[.bool false, .string ⟨#[]⟩, .slice none 0 0] 51)) ((w.alloc (.cells #[.bool false, .string ⟨#[]⟩, .slice none 0 0] 51)).alloc (.cells #[.bool n, .string X, .slice none 0 0] 51))) := hid ((Below.refl _ _).alloc (by simp) _)
  have HT0 : Hid (((w.alloc (.cells #[.bool false, .string ⟨#[]⟩, .slice none 0 0] 51)).alloc (.cells #[.bool n, .string X, .slice none 0 0] 51)).heap[w.heap.size + 1]? = some (.cells #[.bool n, .string X, .slice none 0 0] 51 (0, 0))) := hid (by
    have := heap_alloc_new (w.alloc (.cells #[.bool false, .string ⟨#[]⟩, .slice none 0 0] 51)) (.cells #[.bool n, .string X, .slice none 0 0] 51)
    simpa using this)
  clear hl
  go_enter Try.func20, Try.ntmps20
  go_wp2
  go_loopw [15] (fun i wr => ∃ (j : Nat) (u : Value), j ≤ l.length ∧ i = .int .i64 j ∧ Hid (wr.heap[w.heap.size + 1]? = some (.cells #[.bool n, .string X, u] 51 (0, 0))) ∧ Hid (wr.ownsRow (w.heap.size + 1 + 1) 81 4 u j (((l.take j).map trmOf).flatMap cellsT)) ∧ Hid (Below (w.heap.size + 1) (w.alloc (.cells #[.bool false, .string ⟨#[]⟩, .slice none 0 0] 51)) wr)) (fun i _ => l.length - (intOf i).toNat)
  case atStart => exact ⟨0, .slice none 0 0, by omega, rfl, HT0, hid (World.ownsRow_nil _ _ _ _), HB0⟩
  case round =>
    obtain ⟨j, u, hj, rfl, HT, HU, HB⟩ := hrel
    clear HT0 HB0
    have hbel : Below w.heap.size w wr := (below_one w _).trans (HB.out.mono (by omega))
    have hsz := hbel.size
    have htlt : w.heap.size + 1 < wr.heap.size := lt_of_block HT.out
    have t2 : wr.cell? ⟨w.heap.size + 1, 2, none⟩ = some u := by rw [cell_res' HT.out]; rfl
    by_cases hjt : j < l.length
    · obtain ⟨bb, o, rfl, hc⟩ := HL.out (by omega)
      have d0 := cell_keep hbel (hc j hjt)
      obtain ⟨v, ev⟩ : ∃ v, l[j] = v := ⟨_, rfl⟩
      have htk : ((l.take (j + 1)).map trmOf).flatMap cellsT = ((l.take j).map trmOf).flatMap cellsT ++ [.string ⟨v.toArray⟩, .int .i64 0, .int .i64 0, .string ⟨#[]⟩] := by
        rw [List.take_succ_eq_append_getElem hjt, ev, List.map_append, List.flatMap_append]; rfl
      rw [ev] at d0
      obtain ⟨Z, hZ, _, _⟩ := nm v
      rw [hZ] at d0 htk
      have HTK := hid htk
      have f2 : wr.frozen? ⟨w.heap.size + 1, 2, none⟩ = false := by simp [World.frozen?, HT.out]
      clear hc ev hZ htk
      go_wp2_with (at_builtin; refine wpList_append_new2 Try.underlying49 hi hz0 hz1 hz2 rfl (by decide) (by decide) rfl rfl rfl HU.out rfl (by simp) rfl rfl (by omega) (by omega) ?_; intro v9 w9 hown9 hg9; obtain ⟨g9, cap9, rfl⟩ := own_slice1 hown9; have hT9 := hid ((hg9.block (w.heap.size + 1) htlt (fun e => by have := (HU.out.lt _ e.symm).1; omega)).trans HT.out); have t9 : w9.cell? ⟨w.heap.size + 1, 2, none⟩ = some u := (by rw [cell_res' hT9.out]; rfl); have f9 : w9.frozen? ⟨w.heap.size + 1, 2, none⟩ = false := by simp [World.frozen?, hT9.out])
      have HT10 := hid (three_set hT9.out (x := .slice (some ⟨g9, 0, none⟩) (j + 1) cap9))
      have hU10 := ownsRow_setCell_other hown9 (a := ⟨w.heap.size + 1, 2, none⟩) (fun e => by have := (hown9.lt _ e).1; simp at this; omega) (.slice (some ⟨g9, 0, none⟩) (j + 1) cap9)
      rw [← HTK.out] at hU10
      have HU10 := hid hU10
      have hB9 := HB.out.grown hg9 (by omega) (fun k e => by have := (HU.out.lt k e).1; omega)
      have HB10 := hid (hB9.setCell (p := ⟨w.heap.size + 1, 2, none⟩) (by show w.heap.size + 1 ≤ w.heap.size + 1; omega) (.slice (some ⟨g9, 0, none⟩) (j + 1) cap9))
      clear hown9 hg9 hT9 t9 f9 hU10 hB9
      go_wp2
      go_roundw
      case rel => exact ⟨j + 1, _, by omega, by go_num, HT10, HU10, HB10⟩
      case measure => simp [intOf]; omega
    · have hjl : j = l.length := by omega
      have hU : wr.ownsRow (w.heap.size + 1 + 1) 81 4 u (l.map trmOf).length ((l.map trmOf).flatMap cellsT) := by
        have h1 := HU.out
        rw [List.take_of_length_le (by omega), hjl] at h1
        rw [List.length_map]; exact h1
      obtain ⟨T, c', hT, hK, hcc⟩ := own_trms hU
      rw [List.length_map] at hT hcc
      subst hT
      have t0 : wr.cell? ⟨w.heap.size + 1, 0, none⟩ = some (.bool n) := by rw [cell_res' HT.out]; rfl
      have t1 : wr.cell? ⟨w.heap.size + 1, 1, none⟩ = some (.string X) := by rw [cell_res' HT.out]; rfl
      have HUf := hid hU
      have hz := res_first HB.out
      clear hjl hU hK HU HT
      go_wp2_with (refine wpList_stored2 rfl rfl rfl rfl hz infoAtmS rfl rfl ?_; intro wz hz3 hg3)
      refine bodyPost_ret (by simp [results, Try.results20, go_sem, cell_res' hz3]; rfl) rfl ?_
      obtain ⟨T2, c2, hT2, hK2, hcc2⟩ := own_trms (HUf.out.kept hg3 (.inr (fun e => by have := (HUf.out.lt _ e).1; omega)))
      rw [List.length_map] at hT2
      injection hT2 with e1 e2 e3
      subst e1 e3
      exact ⟨T, c', rfl, hK2, hcc, hbel.grown hg3 (by omega) (fun k e => by injection e; omega)⟩
end Go.Proofs.Ytgeapgbebbapmaa
