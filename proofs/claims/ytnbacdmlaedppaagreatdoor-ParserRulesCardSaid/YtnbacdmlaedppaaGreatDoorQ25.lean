/-
  PARTS of a claim, merged by segs.py: PgR.
-/
import Derived.Test.YtnbacdmlaedppaaGreatDoorQ24
import Derived.Test.YtnbacdmlaedppaaGreatDoorQ18
import Derived.Test.YtnbacdmlaedppaaGreatDoorQ05
import Derived.BigQuiet
namespace Go.Proofs.YtnbacdmlaedppaaGreatDoor

/-! ### PgR -/
section
open Go.RowKit

section
variable {bp c : Nat} {A : Option Addr} {L : List Tok}
set_option maxRecDepth 100000 in
set_option maxHeartbeats 1000000 in
theorem prs_rule1 {W0 : World} {br gp gr B i : Nat} {r : Rul} {W : World} (l : LayR W0 bp br B) (hgp : W0.heap[gp]? = some (.cells #[.pointer (some ⟨bp, 0, none⟩)] 69)) (hgr : W0.heap[gr]? = some (.cells #[.pointer (some ⟨br, 0, none⟩)] 88)) (h1 : gp ≠ bp ∧ gp ≠ br) (h2 : gr ≠ bp ∧ gr ≠ br) (hp : PW bp A c L i W) (hr : RuR W0 bp br B i r W) :
    Calls Tryz.prog 64 #[.pointer (some ⟨gp, 0, none⟩), .pointer (some ⟨gr, 0, none⟩)] W (RetE bp A c L (itemS (tkL L) L.length i r) (RuB W0 bp br) (RuR W0 bp br B)) := by
  have HI := hid (prs_item l hp hr)
  obtain ⟨ua, uc, _, _, h5, _⟩ := hr
  have cp := box_cell ((h5.block gp (lt_of_block hgp) (by simp; omega)).trans hgp) 0
  have cr := box_cell ((h5.block gr (lt_of_block hgr) (by simp; omega)).trans hgr) 0
  generalize itemS (tkL L) L.length i r = o at *
  clear hgp hgr h5 hp
  cases o with
  | bad b =>
    go_enter Tryz.func64, Tryz.ntmps64
    go_wp2_with fail
    refine HI.out.mono ?_
    rintro e w1 ⟨rfl, p1, r1⟩
    have HF := hid (And.intro p1 r1)
    clear p1 r1 HI cp cr
    go_wp2
    go_ret
    exact ⟨rfl, HF.out.1, HF.out.2⟩
  | ok x nx =>
    go_enter Tryz.func64, Tryz.ntmps64
    go_wp2_with fail
    refine HI.out.mono ?_
    rintro e w1 ⟨rfl, p1, r1⟩
    have HF := hid (And.intro p1 r1)
    clear p1 r1 HI cp cr
    go_wp2
    go_ret
    exact ⟨rfl, HF.out.1, HF.out.2⟩
/-- What rule answers. -/
def RetRr (bp : Nat) (A : Option Addr) (c : Nat) (L : List Tok) (br : Nat) (o : Out Rul) (w : World) (e : Ending) (w' : World) : Prop := (match o with
  | .bad b => e = .returned (.bool false) ∧ PW bp A c L b w' ∧ ∃ A1 n1 c1 A2 n2 c2, w'.heap[br]? = some (.cells #[.slice A1 n1 c1, .slice A2 n2 c2] 42)
  | .ok r nx => e = .returned (.bool true) ∧ PW bp A c L nx w' ∧ ∃ Aa ca Ac cc, w'.heap[br]? = some (.cells #[.slice Aa r.atoms.length ca, .slice Ac r.conds.length cc] 42) ∧ OwnRl w' w.heap.size (.slice Aa r.atoms.length ca) (.slice Ac r.conds.length cc) r) ∧ Chg [bp, br] w w'
set_option maxRecDepth 100000 in
set_option maxHeartbeats 1000000 in
theorem prs_rule {k : Nat} {w : World} {br : Nat} (hp : PW bp A c L k w) (hb : w.heap[br]? = some (.cells #[.slice none 0 0, .slice none 0 0] 42)) (hpr : bp < br) {o : Out Rul} (ho : ruleG (tkL L) L.length L.length k ⟨[], []⟩ = o) :
    Calls Tryz.prog 35 #[.pointer (some ⟨bp, 0, none⟩), .pointer (some ⟨br, 0, none⟩)] w (RetRr bp A c L br o w) := by
  have hmf : ∀ (fn : Fn) (first cap : Array Value) (w : World), (Instr.makeFunc fn first cap).run Tryz.prog w = .ok (.func fn first cap) w := fun _ _ _ _ => rfl
  have hlb := lt_of_block hb
  obtain ⟨W, hW⟩ : ∃ W, (w.alloc (.cells #[.pointer (some ⟨bp, 0, none⟩)] 69)).alloc (.cells #[.pointer (some ⟨br, 0, none⟩)] 88) = W := ⟨_, rfl⟩
  have k0 : Below w.heap.size w W := by rw [← hW]; exact ((Below.refl _ _).alloc (Nat.le_refl _) _).alloc (by simp) _
  have hsz : W.heap.size = w.heap.size + 1 + 1 := by rw [← hW]; simp
  have hgp : W.heap[w.heap.size]? = some (.cells #[.pointer (some ⟨bp, 0, none⟩)] 69) := by rw [← hW, Below.heap_alloc _ _ _ (by simp)]; exact heap_alloc_new w _
  have hgr : W.heap[w.heap.size + 1]? = some (.cells #[.pointer (some ⟨br, 0, none⟩)] 88) := by rw [← hW]; have := heap_alloc_new (w.alloc (.cells #[.pointer (some ⟨bp, 0, none⟩)] 69)) (.cells #[.pointer (some ⟨br, 0, none⟩)] 88); rwa [World.size_alloc] at this
  have hlay : LayR W bp br W.heap.size := ⟨hpr, by omega, Nat.le_refl _⟩
  have hE := hp.ended
  have hr0 : RuR W bp br W.heap.size k ⟨[], []⟩ W := ⟨_, _, (k0.block br hlb).trans hb, ⟨OwnAts.nil, World.ownsRow_nil _ _ _ _⟩, Chg.refl _ _, by simp, by simp, Nat.le_refl _⟩
  rw [← listS_rule] at ho
  have HL := hid (prs_list (itemS (tkL L) L.length) (RuR W bp br W.heap.size) (RuB W bp br) (fun _ _ => rfl) (by decide) (fun i nx a b e => itemStep_nx hE e) (fun i j s W1 W2 h hc hj => h.on hlay hc hj)
    (fun s i V2 p2 r2 => prs_rule1 hlay hgp hgr ⟨by omega, by omega⟩ ⟨by omega, by omega⟩ p2 r2) (hp.below k0) hr0 ho)
  have cp := box_cell hgp 0
  have HW := hid hW
  have C0 := hid (chg_below (S := [bp, br]) k0)
  clear hp hb hgp hgr hlay hr0 ho hE hW
  cases o with
  | bad b =>
    go_enter Tryz.func35, Tryz.ntmps35
    go_wp2_with (first | rw [HW.out] | fail)
    refine HL.out.mono ?_
    rintro e w1 ⟨rfl, p1, r1⟩
    have HF := hid (And.intro p1 r1)
    clear p1 r1 HL cp
    go_wp2
    go_ret
    obtain ⟨p1, A1, n1, c1, A2, n2, c2, h1, h2⟩ := HF.out
    exact ⟨⟨rfl, p1, A1, n1, c1, A2, n2, c2, h1⟩, C0.out.trans h2⟩
  | ok x nx =>
    go_enter Tryz.func35, Tryz.ntmps35
    go_wp2_with (first | rw [HW.out] | fail)
    refine HL.out.mono ?_
    rintro e w1 ⟨rfl, p1, r1⟩
    have HF := hid (And.intro p1 r1)
    clear p1 r1 HL cp
    go_wp2
    go_ret
    obtain ⟨p1, ua, uc, h1, h2, h3, _⟩ := HF.out
    obtain ⟨Aa, ca, Ac, cc, rfl, rfl⟩ := h2.shape
    exact ⟨⟨rfl, p1, Aa, ca, Ac, cc, h1, ⟨h2.1.mono (by omega), ren_mono h2.2 (by omega)⟩⟩, C0.out.trans h3⟩
end
end

end Go.Proofs.YtnbacdmlaedppaaGreatDoor
