/-
  PARTS of a claim, merged by segs.py: Rt4.
-/
import Derived.Test.YtnbacdmlaedppaaGreatDoorQ16
namespace Go.Proofs.YtnbacdmlaedppaaGreatDoor

/-! ### Rt4 -/
section
open Go.RowKit

def bytesOf : Value → ByteArray
  | .string s => s
  | _ => ⟨#[]⟩
theorem own_shape {w : World} {B : Nat} {e : TypeId} {v : Value} {n size : Nat} {xs : List Value} (h : w.ownsRow B e size v n xs) : ∃ A c, v = .slice A n c := by
  rcases h.2 with ⟨rfl, h0⟩ | ⟨g, cap, cur, rfl, hB, hh, hn, hm, hcs, ht⟩
  · exact ⟨none, 0, by rw [h0]⟩
  · exact ⟨_, _, rfl⟩

def decRes : Option (List UInt8) → V × Int
  | none => (V0, 15)
  | some o => makeStr o
theorem rParse_def (l : List UInt8) : rParse l = if l = [] then (V0, 10) else if l.getD 0 0 = 45 ∨ isDig (l.getD 0 0) then pInt l
  else if l.length < 2 ∨ l.getD 0 0 ≠ 34 ∨ l.getD (l.length - 1) 0 ≠ 34 then (V0, 15) else decRes (dec [] ((l.drop 1).take (l.length - 2))) := by
  unfold rParse decRes
  cases dec [] ((l.drop 1).take (l.length - 2)) <;> rfl
theorem dec_bad {acc : List UInt8} {r : ByteArray} {b : UInt8} {n : Nat} (h : 0 < r.size) (hu : unq r.data.toList = (b, n)) (hn : n = 0) : dec acc r.data.toList = none := by
  rw [dec_step (list_ne h), hu, if_pos hn]
theorem dec_more {acc : List UInt8} {r : ByteArray} {b : UInt8} {n : Nat} (h : 0 < r.size) (hu : unq r.data.toList = (b, n)) (hn : n ≠ 0) : dec acc r.data.toList = dec (acc ++ [b]) (r.extract n r.size).data.toList ∧ n ≤ r.size := by
  constructor
  · rw [dec_step (list_ne h), hu, if_neg hn, drop_extract]
  · have := unq_le hu hn
    simpa using this

set_option maxRecDepth 100000 in
set_option maxHeartbeats 2000000 in
theorem ref_parse (s : ByteArray) (w : World) (hs : s.size ≤ 100000) {x : V × Int} (hx : parseL s.data.toList = x) :
    Calls Tryz.prog 109 #[.string s] w (RetV w x) := by
  obtain ⟨i0, hi, hz0, hz1, hz2⟩ := info_parts infoByte
  have k0 := below_one w (.cells #[.int .i64 0, .int .i64 0, .string ⟨#[]⟩] 79)
  have hz := heap_alloc_new w (.cells #[.int .i64 0, .int .i64 0, .string ⟨#[]⟩] 79)
  have tl : ∀ B : ByteArray, B.toList = B.data.toList := fun B => Lib.toList_data _
  rw [← rParse_eq, rParse_def] at hx
  by_cases h0 : s.size = 0
  · have e0 : s.data.toList = [] := List.eq_nil_of_length_eq_zero (by simpa using h0)
    rw [if_pos e0] at hx
    subst hx
    have eD : s.toList.isEmpty = true := by rw [tl, e0]; rfl
    clear tl e0 h0
    go_enter Tryz.func109, Tryz.ntmps109
    go_wp2_with (refine wpList_store_res rfl rfl rfl rfl hz infoRef rfl rfl ?_; intro w3 hz3 hb3)
    refine bodyPost_ret (by simp [results, Tryz.results109, go_sem, cell_res hz3]; rfl) rfl ?_
    exact ⟨rfl, k0.trans hb3⟩
  · have hpos : 0 < s.size := by omega
    have eD : s.toList.isEmpty = false := by rw [tl]; simpa using list_ne hpos
    rw [if_neg (list_ne hpos), first_of hpos] at hx
    clear tl
    by_cases hI : s[0] = 45 ∨ isDig s[0]
    · rw [if_pos hI] at hx
      have HI := fun W => hid (ref_integer s W hpos hs hx)
      have hc : ((s[0].toNat : Int) == 45) = true ∨ (((s[0].toNat : Int) == 45) = false ∧ 48 ≤ s[0].toNat ∧ s[0].toNat ≤ 57) := by
        rcases hI with h | h
        · left; rw [h]; rfl
        · right
          unfold isDig at h
          refine ⟨?_, h.1, h.2⟩
          simp; omega
      clear hx hI
      rcases hc with hc | ⟨hc, g1, g2⟩
      all_goals
        go_enter Tryz.func109, Tryz.ntmps109
        go_wp2_with fail
        refine (HI _).out.mono ?_
        rintro e w1 ⟨rfl, b1⟩
        have hz2 := res_keep hz b1 (by simp)
        have hbw := k0.trans (b1.mono (by simp))
        clear HI
        go_wp2_with (refine wpList_store_res rfl rfl rfl rfl hz2 infoRef rfl rfl ?_; intro w3 hz3 hb3)
        refine bodyPost_ret (by simp [results, Tryz.results109, go_sem, cell_res hz3]; rfl) rfl ?_
        exact ⟨rfl, hbw.trans hb3⟩
    · rw [if_neg hI] at hx
      have b45 : ((s[0].toNat : Int) == 45) = false := by
        have : s[0].toNat ≠ 45 := fun e => hI (.inl (UInt8.toNat.inj e))
        simp; omega
      have hdg : ¬ (48 ≤ s[0].toNat ∧ s[0].toNat ≤ 57) := fun h => hI (.inr h)
      have hdc : s[0].toNat < 48 ∨ 57 < s[0].toNat := by omega
      clear hI hdg
      have hll : s.data.toList.length = s.size := by simp
      rw [hll] at hx
      by_cases h2 : s.size < 2
      · rw [if_pos (.inl h2)] at hx
        subst hx
        rcases hdc with hdc | hdc
        all_goals
          go_enter Tryz.func109, Tryz.ntmps109
          go_wp2_with (refine wpList_store_res rfl rfl rfl rfl hz infoRef rfl rfl ?_; intro w3 hz3 hb3)
          refine bodyPost_ret (by simp [results, Tryz.results109, go_sem, cell_res hz3]; rfl) rfl ?_
          exact ⟨rfl, k0.trans hb3⟩
      · by_cases h34 : s[0].toNat = 34
        · have hl1 : s.size - 1 < s.size := by omega
          have hlast : s.data.toList.getD (s.size - 1) 0 = (s[s.size - 1]'hl1) := getD_of (by omega)
          have eix : ((s.size : Int) - 1).toNat = s.size - 1 := by clear hlast; omega
          by_cases hq : (s[s.size - 1]'hl1).toNat = 34
          · rw [if_neg (by rw [hlast]; rintro (h | h | h); exact h2 h; exact h (UInt8.toNat.inj h34); exact h (UInt8.toNat.inj hq))] at hx
            clear hdc hlast hll
            obtain ⟨D, hD⟩ : ∃ D : ByteArray, s.extract 1 (s.size - 1) = D := ⟨_, rfl⟩
            have hDl : (s.data.toList.drop 1).take (s.size - 2) = D.data.toList := by
              rw [← hD]; simp only [ByteArray.data_extract, Array.toList_extract, List.extract]; congr 1
            have hDs : D.size ≤ s.size := by rw [← hD]; simp; omega
            rw [hDl] at hx
            have HX := hid hx
            clear hx hDl
            go_enter Tryz.func109, Tryz.ntmps109
            go_wp2
            go_loopw [4, 5] (fun r v wr => ∃ (R : ByteArray) (l : List UInt8), r = .string R ∧ l.length + R.size ≤ 100000 ∧ wr.ownsRow (w.heap.size + 1) 5 1 v l.length (Lib.byteCells l) ∧ Hid (decRes (dec l R.data.toList) = x) ∧ Below (w.heap.size + 1) (w.alloc (.cells #[.int .i64 0, .int .i64 0, .string ⟨#[]⟩] 79)) wr) (fun r _ _ => (bytesOf r).size)
            case atStart => exact ⟨D, [], rfl, by simp; omega, World.ownsRow_nil _ _ _ _, HX, Below.refl _ _⟩
            case round =>
              obtain ⟨R, l, rfl, hlen, hown, HK, hbel⟩ := hrel
              clear HX
              have hz' := res_keep hz hbel (by omega)
              have hsz : w.heap.size < wr.heap.size := by have := hbel.size; simp at this; omega
              have hbw : Below w.heap.size w wr := k0.trans (hbel.mono (by omega))
              by_cases hR : R.size = 0
              · have e0 : R.data.toList = [] := List.eq_nil_of_length_eq_zero (by simpa using hR)
                rw [e0, dec_nil] at HK
                have eR : R.toList.isEmpty = true := by rw [Lib.toList_data, e0]; rfl
                have eR' : (!R.toList.isEmpty) = false := by rw [eR]; rfl
                obtain ⟨A0, c0, rfl⟩ := own_shape hown
                have hcv := run_own_to_string Tryz.underlying48 Tryz.underlying5 Tryz.underlying9 _ hown
                have HM : Hid (makeStr l = x) := HK
                clear HK e0
                by_cases h24 : 24 < l.length
                · have HK : Hid ((V0, (13 : Int)) = x) := hid (by rw [← HM.out]; unfold makeStr; rw [if_pos h24])
                  clear HM
                  go_wp2_with (refine wpList_store_res rfl rfl rfl rfl hz' infoRef rfl rfl ?_; intro w3 hz3 hb3)
                  refine bodyPost_ret (by simp [results, Tryz.results109, go_sem, cell_res hz3]; rfl) rfl ?_
                  exact ⟨by rw [← HK.out]; rfl, hbw.trans hb3⟩
                · have HK : Hid ((strV l, (0 : Int)) = x) := hid (by rw [← HM.out]; unfold makeStr; rw [if_neg h24])
                  clear HM
                  go_wp2_with (refine wpList_store_res rfl rfl rfl rfl hz' infoRef rfl rfl ?_; intro w3 hz3 hb3)
                  refine bodyPost_ret (by simp [results, Tryz.results109, go_sem, cell_res hz3]; rfl) rfl ?_
                  exact ⟨by rw [← HK.out]; rfl, hbw.trans hb3⟩
              · have hp : 0 < R.size := by omega
                have eR : R.toList.isEmpty = false := by rw [Lib.toList_data]; simpa using list_ne hp
                have eR' : (!R.toList.isEmpty) = true := by rw [eR]; rfl
                obtain ⟨⟨b, n⟩, hu⟩ : ∃ p, unq R.data.toList = p := ⟨_, rfl⟩
                have HW := fun W => hid (ref_width R W (by omega) hu)
                by_cases hn : n = 0
                · rw [dec_bad hp hu hn] at HK
                  subst hn
                  clear hu
                  go_wp2_with fail
                  refine (HW _).out.mono ?_
                  rintro e w1 ⟨rfl, b1⟩
                  have hz2 := res_keep hz' b1 hsz
                  have hbw2 := hbw.trans (b1.mono (by omega))
                  clear HW
                  go_wp2_with (refine wpList_store_res rfl rfl rfl rfl hz2 infoRef rfl rfl ?_; intro w3 hz3 hb3)
                  refine bodyPost_ret (by simp [results, Tryz.results109, go_sem, cell_res hz3]; rfl) rfl ?_
                  exact ⟨by rw [← HK.out]; rfl, hbw2.trans hb3⟩
                · obtain ⟨hm, hle⟩ := dec_more (acc := l) hp hu hn
                  rw [hm] at HK
                  have bn : ((n : Int) == 0) = false := by simp; omega
                  clear hu hm
                  go_wp2_with fail
                  refine (HW _).out.mono ?_
                  rintro e w1 ⟨rfl, b1⟩
                  have hown1 := own_below hown b1
                  have hbel1 := hbel.trans (b1.mono (by omega))
                  have hs1 : w.heap.size + 1 ≤ w1.heap.size := by have := b1.size; omega
                  clear HW
                  go_wp2_with (at_builtin; refine wpList_append_new Tryz.underlying48 hi hz0 hz1 hz2 rfl (by decide) (by decide) rfl rfl rfl hown1 rfl rfl rfl (by omega) hs1 ?_; intro v2 w2 hown2 hg2)
                  go_roundw
                  case rel => exact ⟨R.extract n R.size, l ++ [b], rfl, by simp; omega, byteCells_snoc _ _ _ rfl rfl hown2, HK, hbel1.trans (grown_below hown1 hg2 hs1)⟩
                  case measure => simp [bytesOf]; omega
          · have bq : (((s[s.size - 1]'hl1).toNat : Int) != 34) = true := by rw [bne_iff_ne]; omega
            rw [if_pos (.inr (.inr (by rw [hlast]; exact fun e => hq (congrArg UInt8.toNat e))))] at hx
            subst hx
            clear hdc hlast hq hll
            go_enter Tryz.func109, Tryz.ntmps109
            go_wp2_with (refine wpList_store_res rfl rfl rfl rfl hz infoRef rfl rfl ?_; intro w3 hz3 hb3)
            refine bodyPost_ret (by simp [results, Tryz.results109, go_sem, cell_res hz3]; rfl) rfl ?_
            exact ⟨rfl, k0.trans hb3⟩
        · have b34 : ((s[0].toNat : Int) == 34) = false := by simp; omega
          rw [if_pos (.inr (.inl (fun e => h34 (congrArg UInt8.toNat e))))] at hx
          subst hx
          rcases hdc with hdc | hdc
          all_goals
            go_enter Tryz.func109, Tryz.ntmps109
            go_wp2_with (refine wpList_store_res rfl rfl rfl rfl hz infoRef rfl rfl ?_; intro w3 hz3 hb3)
            refine bodyPost_ret (by simp [results, Tryz.results109, go_sem, cell_res hz3]; rfl) rfl ?_
            exact ⟨rfl, k0.trans hb3⟩
end
end Go.Proofs.YtnbacdmlaedppaaGreatDoor
