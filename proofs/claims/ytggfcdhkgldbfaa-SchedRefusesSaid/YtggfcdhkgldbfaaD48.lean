/-
  PARTS of a claim, merged by segs.py: CwRf6.
-/
import Derived.Test.YtggfcdhkgldbfaaD46
import Derived.Test.YtggfcdhkgldbfaaD47
namespace Go.Proofs.Ytggfcdhkgldbfaa
set_option linter.unusedSimpArgs false
set_option linter.unusedVariables false

/-! ### CwRf6 -/
section
set_option linter.unusedSimpArgs false
open Go Go.Conc Go.RowKit Go.ConcR.Gen Cw
open Go.ConcN (sumTo)

theorem callsC_le {P : Program} {main : Bool} {R : World → World → Prop} {D : World → World → Array Event → Prop} {f : FuncId} {args : Array Value} {n m : Nat} {w : World} {Post : Value → World → Prop} (h : CallsC P main R D f args n w Post) (hm : n ≤ m) : CallsC P main R D f args m w Post := by
  obtain ⟨fn, c, h1, h2, h3, h4⟩ := h
  exact ⟨fn, c, h1, h2, h3, wpC_more h4 hm⟩
abbrev ifNil (v : Value) : Prop := v = .nilIface ∨ ∃ ty x, v = .iface ty x
theorem notWg_ifNil {v : Value} (h : ifNil v) : notWg v = true := by
  rcases h with rfl | ⟨_, _, rfl⟩ <;> rfl
def badP (l : List Int) (n : Nat) (i : Nat) : Bool := match l[i]? with
  | some x => decide (x < 0) || decide ((n : Int) ≤ x)
  | none => false
section
variable {Sh : Loc → Prop} {W : World} {al ap : Option Addr} {xs : List Value} {ips : List Int}
set_option maxHeartbeats 2000000 in
theorem run_many [Ref] {γ tcap pcap n np : Nat} (hS : ShOk Sh W) (hm : 64 < n ∨ 4096 < np)
    {b₀ : Frame} {a₀ : Act} {ops : Array Oper} {j : Nat} {rest : List Nat} {kk : List Item} {cs : List Frame} {m : Machine} {T : Trace}
    (H : Held Try.prog (Cx0 Sh) Vn 0 0 γ Gone (fun g w => g = G (fRun (entryT (.slice ap np pcap) (.slice al n tcap)) [.code bodyM]) (b₀.at a₀ (.inRegion ops (j :: rest) :: kk) :: cs) ∧ Ext Vn W w) m T) :
    Lands Try.prog m T (Held Try.prog (Cx0 Sh) Vn 0 0 γ Gone (fun g w => g = G (b₀.at (a₀.put ((ops[j]?).bind (·.dst)) (.tuple #[.slice none 0 0, .int .i64 12])) (.inRegion ops rest :: kk)) cs ∧ Ext Vn W w)) :=
  H.walk gone_stb fun g w hK => ⟨60, by
    obtain ⟨rfl, hK⟩ := hK
    by_cases h : 64 < n
    · exact r_rej1a (mn := (0 == 0)) hS h cs w ⟨hK, by simp⟩
    · exact r_rej1b (mn := (0 == 0)) hS (by omega) (hm.resolve_left h) cs w ⟨hK, by simp⟩⟩
set_option maxHeartbeats 2000000 in
theorem run_hole [Ref] {γ tcap pcap np : Nat} (hS : ShOk Sh W) (hn : xs.length ≤ 64) (hnp : np ≤ 4096) (hx : VRow W al xs) (hif : ∀ v ∈ xs, ifNil v) {k : Nat} (hk : xs[k]? = some .nilIface)
    {b₀ : Frame} {a₀ : Act} {ops : Array Oper} {j : Nat} {rest : List Nat} {kk : List Item} {cs : List Frame} {m : Machine} {T : Trace}
    (H : Held Try.prog (Cx0 Sh) Vn 0 0 γ Gone (fun g w => g = G (fRun (entryT (.slice ap np pcap) (.slice al xs.length tcap)) [.code bodyM]) (b₀.at a₀ (.inRegion ops (j :: rest) :: kk) :: cs) ∧ Ext Vn W w) m T) :
    Lands Try.prog m T (Held Try.prog (Cx0 Sh) Vn 0 0 γ Gone (fun g w => g = G (b₀.at (a₀.put ((ops[j]?).bind (·.dst)) (.tuple #[.slice none 0 0, .int .i64 1])) (.inRegion ops rest :: kk)) cs ∧ Ext Vn W w)) := by
  refine (H.walk gone_stb fun g w hK => ⟨40, by obtain ⟨rfl, hK⟩ := hK; exact r_begin1 (W := W) (mn := (0 == 0)) hS (al := al) (ap := ap) (tcap := tcap) (pcap := pcap) hn hnp _ w ⟨hK, by simp⟩⟩).bind fun m₁ T₁ H₁ => ?_
  obtain ⟨tb, H₁⟩ := H₁.ex
  obtain ⟨Ts, H₁⟩ := H₁.ex
  obtain ⟨⟨s1, s2, s3, s4⟩, H₁⟩ := H₁.and
  exact H₁.walk gone_stb fun g w hK => by
    obtain ⟨rfl, hK⟩ := hK
    obtain ⟨k1, hk1⟩ := c_run1 (Sh := Sh) (W := w) (main := (0 == 0))
    obtain ⟨k2, hk2⟩ := c_run1n (Sh := Sh) (W := w) (main := (0 == 0))
    obtain ⟨kc, hkc⟩ := c_conTp (main := (0 == 0)) (pre_ext hS hK.1) tcap (vrow_ext hx hK.1) (by omega) (fun u hu => notWg_ifNil (hif u hu)) (f := 15) (cap := #[]) (p := fun i => match xs[i]? with | some .nilIface => true | _ => false) ⟨max k1 k2, fun i x hx w' hw' => by
      simp only [hx]
      rcases hif x (List.mem_of_getElem? hx) with rfl | ⟨ty, y, rfl⟩
      · exact callsC_le (hk2 w' hw') (by omega)
      · exact callsC_le (hk1 ty y w' hw') (by omega)⟩
    rw [anyP_some (i := k) (List.getElem?_eq_some_iff.1 hk).1 (by rw [hk])] at hkc
    exact ⟨20 + kc + 3, r_rej2 (mn := (0 == 0)) hS (np := np) (pcap := pcap) _ w hK Ts s1 s2 s3 s4 hkc⟩
set_option maxHeartbeats 2000000 in
theorem run_range [Ref] {γ tcap pcap : Nat} (hS : ShOk Sh W) (hn : xs.length ≤ 64) (hnp : ips.length ≤ 4096) (hx : VRow W al xs) (hif : ∀ v ∈ xs, ∃ ty x, v = .iface ty x) (hp : VRow W ap (intv ips)) (hb : ∃ x ∈ ips, x < 0 ∨ (xs.length : Int) ≤ x)
    {b₀ : Frame} {a₀ : Act} {ops : Array Oper} {j : Nat} {rest : List Nat} {kk : List Item} {cs : List Frame} {m : Machine} {T : Trace}
    (H : Held Try.prog (Cx0 Sh) Vn 0 0 γ Gone (fun g w => g = G (fRun (entryT (.slice ap ips.length pcap) (.slice al xs.length tcap)) [.code bodyM]) (b₀.at a₀ (.inRegion ops (j :: rest) :: kk) :: cs) ∧ Ext Vn W w) m T) :
    Lands Try.prog m T (Held Try.prog (Cx0 Sh) Vn 0 0 γ Gone (fun g w => g = G (b₀.at (a₀.put ((ops[j]?).bind (·.dst)) (.tuple #[.slice none 0 0, .int .i64 3])) (.inRegion ops rest :: kk)) cs ∧ Ext Vn W w)) := by
  refine (H.walk gone_stb fun g w hK => ⟨40, by obtain ⟨rfl, hK⟩ := hK; exact r_begin1 (W := W) (mn := (0 == 0)) hS (al := al) (ap := ap) (tcap := tcap) (pcap := pcap) hn hnp _ w ⟨hK, by simp⟩⟩).bind fun m₁ T₁ H₁ => ?_
  obtain ⟨tb, H₁⟩ := H₁.ex
  obtain ⟨Ts, H₁⟩ := H₁.ex
  obtain ⟨⟨s1, s2, s3, s4⟩, H₁⟩ := H₁.and
  refine (H₁.walk gone_stb fun g w hK => by
    obtain ⟨rfl, hK⟩ := hK
    obtain ⟨k1, hk1⟩ := c_run1 (Sh := Sh) (W := w) (main := (0 == 0))
    obtain ⟨kc, hkc⟩ := c_conT (main := (0 == 0)) (pre_ext hS hK.1) tcap (vrow_ext hx hK.1) (by omega) (fun u hu => by obtain ⟨ty, x, rfl⟩ := hif u hu; rfl) (f := 15) (cap := #[]) ⟨k1, fun x hx w' hw' => by obtain ⟨ty, y, rfl⟩ := hif x hx; exact hk1 _ _ w' hw'⟩
    exact ⟨20 + kc + 3, r_begin2 (mn := (0 == 0)) hS (np := ips.length) (pcap := pcap) _ w hK Ts s1 s2 s3 s4 hkc⟩).bind fun m₂ T₂ H₂ => ?_
  obtain ⟨Ts₂, H₂⟩ := H₂.ex
  obtain ⟨⟨p1, p2, p3, p4, p5⟩, H₂⟩ := H₂.and
  exact H₂.walk gone_stb fun g w hK => by
    obtain ⟨rfl, hK⟩ := hK
    have hbx := (hK.2 (tb, Obj.cells #[.slice al xs.length tcap] 32 (0, 0)) (by simp)).2
    have hbc : w.cell? ⟨tb, 0, none⟩ = some (.slice al xs.length tcap) := by simp only at hbx; simp [World.cell?, hbx]
    obtain ⟨k1, hk1⟩ := c_run2n (Sh := Sh) (W := w) (main := (0 == 0))
    obtain ⟨k2, hk2⟩ := c_run2b (main := (0 == 0)) (pre_ext hS hK.1) hbc
    obtain ⟨kc, hkc⟩ := c_conIp (main := (0 == 0)) (pre_ext hS hK.1) pcap (vrow_ext hp hK.1) (by simp [intv]; omega) (fun u hu => by obtain ⟨x, _, rfl⟩ := List.mem_map.1 hu; rfl) (f := 17) (cap := #[pb tb]) (p := badP ips xs.length) ⟨max k1 k2, fun i v hv w' hw' => by
      obtain ⟨x, hx, rfl⟩ : ∃ x, ips[i]? = some x ∧ Value.int .i64 x = v := by simpa [intv] using hv
      simp only [badP, hx]
      by_cases hneg : x < 0
      · rw [decide_eq_true hneg, Bool.true_or]
        exact callsC_le (hk1 x tb w' hneg hw') (by omega)
      · rw [decide_eq_false hneg, Bool.false_or]
        obtain ⟨y, rfl⟩ : ∃ y : Nat, x = y := ⟨x.toNat, by omega⟩
        have := callsC_le (m := max k1 k2) (hk2 y w' hw') (by omega)
        rw [show decide (((xs.length : Nat) : Int) ≤ ((y : Nat) : Int)) = decide (xs.length ≤ y) by simp]
        exact this⟩
    rw [show (intv ips).length = ips.length by simp [intv], show anyP (badP ips xs.length) ips.length = true by
      obtain ⟨x, hx, hb⟩ := hb
      obtain ⟨i, hi⟩ := List.getElem?_of_mem hx
      refine anyP_some (List.getElem?_eq_some_iff.1 hi).1 ?_
      simp only [badP, hi, Bool.or_eq_true, decide_eq_true_eq]
      exact hb] at hkc
    exact ⟨30 + kc + 3, r_rej3 (mn := (0 == 0)) hS _ w hK Ts₂ p1 p2 p3 p4 p5 hkc⟩
end
section
variable {W W₂ : World} {sb n : Nat} {al ap : Option Addr} {ps : List Nat}
theorem preF (hsb : W.heap.size ≤ sb) (hcell : W₂.heap[sb]? = some (.cells #[.int .i64 0] 3 (0, 0))) (hn : n ≤ 64) (hx : VRow W₂ al (List.replicate n (adV sb))) (hp0 : VRow W ap (ints ps)) (hp : VRow W₂ ap (ints ps)) :
    PreT (fun _ => False) al ap (List.replicate n (adV sb)) ps (fun W => addersT W sb (tmF n) n) (fun _ => (0 : Nat)) sb W₂ where
  sh := fun a h => h.elim
  tasks := hx
  picks := hp
  ok := adders_ok (fun a h => h.elim) hcell (fun k hk => by simp [tmF]; omega) (fun k => by simp only [tmF]; split <;> omega)
  tm := fun w hw => ⟨fun b hb _ => hw b hb, (hw sb (Array.getElem?_eq_some_iff.1 hcell).1).trans hcell⟩
  frame := fun m w h b hb hne => h.1 b hb hne
  tvk := fun k v hv => by
    obtain ⟨hk, rfl⟩ : k < n ∧ adV sb = v := by simpa [List.getElem?_replicate] using hv
    show tvD sb (tmF n) k = _
    simp [tvD, tmF, hk]
  inv := by
    show InvD (tmF n) n (fun _ => (0, none)) 0 0
    refine ⟨Nat.le_refl _, fun k j m h => by simp at h, ?_, fun k _ => rfl⟩
    rw [sum_const n (c := 1) fun k hk => by simp [remD, posD, tmF, hk]]
    omega
  sum := by
    rw [List.length_replicate]
    rw [sum_const n (c := 2) fun k hk => by show rkD (tmF n k) (0, none) = 2; simp [rkD, tmF, hk]]
    omega
  rowT := fun b o ha hne hb => by
    rcases hx with hx | ⟨b', o', ha', hc⟩
    · exact hne hx
    · rw [ha] at ha'
      cases ha'
      have h0 := hc 0 (adV sb) (by cases n with
        | zero => simp at hne
        | succ n => simp [List.replicate_succ])
      rw [hb] at h0
      simp only [World.cell?, hcell] at h0
      cases o with
      | zero => simp at h0
      | succ o => simp at h0
  rowP := fun b o ha hne hb => by
    rcases hp0 with hp0 | ⟨b', o', ha', hc⟩
    · exact hne (by simpa [ints] using hp0)
    · rw [ha] at ha'
      cases ha'
      obtain ⟨p, l, rfl⟩ : ∃ p l, ps = p :: l := by cases ps with
        | nil => exact absurd rfl hne
        | cons p l => exact ⟨p, l, rfl⟩
      have h0 := block_of_cell (hc 0 (.int .i64 p) (by simp [ints]))
      simp only at h0
      omega
  sbs := fun a h => h.elim
end
end
end Go.Proofs.Ytggfcdhkgldbfaa
