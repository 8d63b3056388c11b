/-
  WALK: the law's Bad.
-/
import Derived.Test.YtgeapgbebbapmaaChk6
import Derived.Deep.QuietTactic
namespace Go.Proofs.Ytgeapgbebbapmaa
open Go.RowKit

def kindOk (k : Int) : Bool := k == 1 || k == 2
def schOk (s : Sch) : Bool := decide (s.name.length ≤ 100) && (decide (s.kinds.length ≤ 8) && s.kinds.all kindOk)
def badB (S : List Sch) : Bool := !(S.all schOk && decide (S.length ≤ 8))
theorem all_at {α : Type} {p : α → Bool} {l : List α} {k : Nat} (h : k < l.length) (hp : p l[k] = false) : l.all p = false :=
  List.all_eq_false.2 ⟨l[k], List.getElem_mem h, by simp [hp]⟩
theorem all_on {α : Type} {p : α → Bool} {l : List α} {k : Nat} (h : k < l.length) (ht : (l.take k).all p = true) (hp : p l[k] = true) : (l.take (k + 1)).all p = true := by
  rw [List.take_succ_eq_append_getElem h, List.all_append, ht]
  simp [hp]
theorem all_end {α : Type} {p : α → Bool} {l : List α} {k : Nat} (h : ¬ k < l.length) (ht : (l.take k).all p = true) : l.all p = true := by
  rwa [List.take_of_length_le (by omega)] at ht

set_option maxRecDepth 100000 in
set_option maxHeartbeats 8000000 in
theorem law_bad (S : List Sch) (A : Option Addr) (c : Nat) (w : World) (hs : SchsAt w A S) (hm : S.length ≤ 9223372036854775807) {x : Bool} (hx : badB S = x) :
    Calls Try.prog 11 #[.slice A S.length c] w fun e w' => e = .returned (.bool x) ∧ Below w.heap.size w w' := by
  have HS := hid hs
  have HX := hid hx
  have HB0 : Hid (Below w.heap.size w w) := hid (Below.refl _ _)
  clear hs hx
  go_enter Try.func11, Try.ntmps11
  go_wp2
  go_loopw [9] (fun i wr => ∃ j : Nat, j ≤ S.length ∧ i = .int .i64 j ∧ Hid ((S.take j).all schOk = true) ∧ Hid (Below w.heap.size w wr)) (fun i _ => S.length - (intOf i).toNat)
  case atStart => exact ⟨0, by omega, rfl, hid rfl, HB0⟩
  case round =>
    obtain ⟨j, hj, rfl, HK, HB⟩ := hrel
    clear HB0
    have hbel := HB.out
    have hsz := hbel.size
    by_cases hlt : j < S.length
    · obtain ⟨bb, o, rfl, hc⟩ := HS.out (by omega)
      obtain ⟨T, ct, d0, d1, hk, _, mk⟩ := hc j hlt
      replace d0 := cell_keep hbel d0
      replace d1 := cell_keep hbel d1
      have hat := fun h => all_at (p := schOk) hlt h
      have hon := fun h => all_on (p := schOk) hlt HK.out h
      obtain ⟨s, es⟩ : ∃ s, S[j] = s := ⟨_, rfl⟩
      rw [es] at d0 d1 hk mk hat hon
      obtain ⟨Z, hZ, hZd, _⟩ := nm s.name
      have hZs : Z.size = s.name.length := by rw [← hZd]; simp
      rw [hZ] at d0
      have HK1 := hid hk
      have Hat := hid hat
      have Hon := hid hon
      have HB1 := hid (hbel.trans ((below_one wr (.cells #[.string Z, .slice T s.kinds.length ct] 61)).mono hsz))
      have HB4 : Hid (Below (wr.heap.size + 1) (wr.alloc (.cells #[.string Z, .slice T s.kinds.length ct] 61)) (wr.alloc (.cells #[.string Z, .slice T s.kinds.length ct] 61))) := hid (Below.refl _ _)
      clear hc es hk hat hon hZ hZd HK
      by_cases h100 : (Z.size : Int) > 100
      · have b100 : decide ((Z.size : Int) > 100) = true := decide_eq_true h100
        have hxx : x = true := by
          rw [← HX.out]; unfold badB; rw [Hat.out (by unfold schOk; rw [decide_eq_false (by omega)]; rfl)]; rfl
        subst hxx
        clear Hat Hon
        go_wp2
        go_ret
        exact ⟨rfl, HB1.out⟩
      · have b100 : decide ((Z.size : Int) > 100) = false := decide_eq_false h100
        by_cases h8 : (s.kinds.length : Int) > 8
        · have b8 : decide ((s.kinds.length : Int) > 8) = true := decide_eq_true h8
          have hxx : x = true := by
            rw [← HX.out]; unfold badB; rw [Hat.out (by unfold schOk; rw [decide_eq_false (by omega : ¬ s.kinds.length ≤ 8)]; simp)]; rfl
          subst hxx
          clear Hat Hon
          go_wp2
          go_ret
          exact ⟨rfl, HB1.out⟩
        · have b8 : decide ((s.kinds.length : Int) > 8) = false := decide_eq_false h8
          go_wp2
          go_loopw [26] (fun i wx => ∃ k : Nat, k ≤ s.kinds.length ∧ i = .int .i64 k ∧ Hid ((s.kinds.take k).all kindOk = true) ∧ wx = wr.alloc (.cells #[.string Z, .slice T s.kinds.length ct] 61)) (fun i _ => s.kinds.length - (intOf i).toNat)
          case atStart => exact ⟨0, by omega, rfl, hid rfl, rfl⟩
          case round =>
            obtain ⟨k, hk, rfl, HK, rfl⟩ := hrel
            by_cases hlt2 : k < s.kinds.length
            · obtain ⟨b2, o2, rfl, hc2⟩ := HK1.out (by omega)
              have e0 := cell_keep HB1.out (hc2 k hlt2)
              have hat2 := hid (fun h => all_at (p := kindOk) hlt2 h)
              have hon2 := hid (fun h => all_on (p := kindOk) hlt2 HK.out h)
              obtain ⟨y, ey⟩ : ∃ y, s.kinds[k] = y := ⟨_, rfl⟩
              rw [ey] at e0 hat2 hon2
              clear hc2 ey HK
              by_cases y1 : y = 1
              · have by1 : (y != 1) = false := by simpa using y1
                have HN := hid (hon2.out (by unfold kindOk; simp [y1]))
                clear hat2 hon2
                go_wp2
                go_roundw
                case rel => exact ⟨k + 1, by omega, by go_num, HN, trivial⟩
                case measure => simp [intOf]; omega
              · have by1 : (y != 1) = true := by simpa using y1
                by_cases y2 : y = 2
                · have by2 : (y != 2) = false := by simpa using y2
                  have HN := hid (hon2.out (by unfold kindOk; simp [y2]))
                  clear hat2 hon2
                  go_wp2
                  go_roundw
                  case rel => exact ⟨k + 1, by omega, by go_num, HN, trivial⟩
                  case measure => simp [intOf]; omega
                · have by2 : (y != 2) = true := by simpa using y2
                  have hxx : x = true := by
                    rw [← HX.out]; unfold badB; rw [Hat.out (by unfold schOk; rw [hat2.out (by unfold kindOk; simp [y1, y2])]; simp)]; rfl
                  subst hxx
                  clear hat2 hon2 Hat Hon
                  go_wp2
                  go_ret
                  exact ⟨rfl, HB1.out⟩
            · have HN := hid (Hon.out (by unfold schOk; rw [all_end hlt2 HK.out, decide_eq_true (by omega : s.name.length ≤ 100), decide_eq_true (by omega : s.kinds.length ≤ 8)]; rfl))
              clear HK Hat Hon
              go_wp2
              go_roundw
              case rel => exact ⟨j + 1, by omega, by go_num, HN, HB1⟩
              case measure => simp [intOf]; omega
    · have hall := all_end hlt HK.out
      by_cases h8 : (S.length : Int) > 8
      · have b8 : decide ((S.length : Int) > 8) = true := decide_eq_true h8
        have hxx : x = true := by rw [← HX.out]; unfold badB; rw [hall, decide_eq_false (by omega)]; rfl
        subst hxx
        clear HK hall
        go_wp2
        go_ret
        exact ⟨rfl, hbel⟩
      · have b8 : decide ((S.length : Int) > 8) = false := decide_eq_false h8
        have hxx : x = false := by rw [← HX.out]; unfold badB; rw [hall, decide_eq_true (by omega)]; rfl
        subst hxx
        clear HK hall
        go_wp2
        go_ret
        exact ⟨rfl, hbel⟩
end Go.Proofs.Ytgeapgbebbapmaa
