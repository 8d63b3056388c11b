/-
  PROVED HERE: the law ordinallaw57.SchedRefuses answers true for every input, on every schedule and without a race, and leaves its arguments as they were.
-/
import Derived.Test.YtggfcdhkgldbfaaD49
import Derived.Test.YtggfcdhkgldbfaaD50
import Derived.Conc.LeavingOf
namespace Go.Proofs.Ytggfcdhkgldbfaa
open Go Go.ChangeShapes Go.WideShapes Go.ChangeAt Go.RowKit Cw

namespace schedRefuses
theorem own : ownKnob Try.prog.godebug = none := by kernel_rfl
theorem laidOut : laidOutB Try.prog = true := by kernel_rfl
section
variable {H : Type} {enc : TypeId × Value → H} {w : World} {base : Nat} {sp : Nat → Bool} {held : Bool}
theorem open_introw {t : TypeId} (ht : Try.prog.underlying t = some (.slice 3)) {v : Value} {d : DataW H} {ps : List MemPlace} (hs : ∃ a len cap, v = .slice a len cap) (h : DataW.Trod enc Try.prog w base sp held t v d ps) :
    ∃ (A : Option Addr) (l : List Int) (c : Nat), v = .slice A l.length c ∧ VRow w A (intv l) := by
  obtain ⟨a, len, cap, rfl⟩ := hs
  obtain ⟨n, h⟩ := h
  obtain ⟨A, l, c, h1, h2, _, _⟩ := open_list (α := Int) (p := fun y u _ => u = .int .i64 y) ht (by kernel_rfl) (fun n u x h => by
    obtain ⟨m, e, _, _⟩ := DataW.trod_int Try.underlying3 h
    injection e with e
    exact ⟨m, e⟩) h
  have h1' : [Value.slice a len cap] = _ := h1
  injection h1' with h1'
  refine ⟨A, l, c, h1', ?_⟩
  rcases h2 with rfl | ⟨b, o, e, hk⟩
  · exact .inl rfl
  · refine .inr ⟨b, o, e, fun k v hv => ?_⟩
    obtain ⟨x, hx, rfl⟩ : ∃ x, l[k]? = some x ∧ Value.int .i64 x = v := by simpa [intv] using hv
    obtain ⟨u, hu, _, rfl, _⟩ := hk k x hx
    exact hu
end
theorem byte_of {n : Int} (hw : (Lit.int .u8 n).wf = true) : ∃ m : Nat, n = m ∧ m < 256 := by
  simp [Lit.wf, IntKind.min, IntKind.max, IntKind.signed, IntKind.bits] at hw
  exact ⟨n.toNat, by rw [Int.toNat_of_nonneg (by omega)], by omega⟩
set_option maxRecDepth 100000 in
theorem lifted (os : Os) (started : os.Started) (H : Type) (enc : TypeId × Value → H) :
    ReturnsInLeavingWide {} Try.checked os 6 .any (Rows.schedRefusesSpec.pre6 enc Try.prog Try.f6 Rows.schedRefusesRow.domain false) (Rows.schedRefusesSpec.post enc Try.prog Try.f6 false true false false) := by
  refine returnsInLeavingWide_of_change_sized (C := Try.checked) own started Try.func6
    (ChangeSpec.witness6 (enc := enc) (C := Try.checked) false ⟨#[], #[.slice none 0 0, .int .u8 0, .int .u8 0], []⟩ 8 (by kernel_rfl) (by kernel_rfl) (by kernel_rfl) (by kernel_rfl)) ?_
  intro W base args ds gs before hval0 hW _ _ _
  have hval : ∀ (j : Nat) t v, Try.f6.params[j]? = some t → args[j]? = some v → Value.okWide Try.prog W .any base t v := hval0
  have hW' := hW
  obtain ⟨p, q, hA0, hV, rfl, _, _⟩ := hW
  have hA : DataW.TrodAll enc Try.prog W 0 (fun _ => true) true Try.f6.params.toList args.toList ds p := hA0
  rw [Try.params6] at hA hval
  obtain ⟨v0, v1, v2, d0, d1, d2, p0, p1, p2, rfl, rfl, rfl, h0, h1, h2⟩ := trodAll_three hA
  obtain ⟨rfl, rfl⟩ := trodVars_none hV
  clear hA0
  simp only [List.append_nil] at hW'
  obtain ⟨ap, ips, pc, rfl, hp⟩ := open_introw Try.underlying24 (okWide_slice Try.underlying24 (hval 0 24 v0 rfl rfl)) h0
  obtain ⟨a, rfl, rfl, rfl, wa⟩ := open_int Try.underlying5 (hval 1 5 v1 rfl rfl) h1
  obtain ⟨b, rfl, rfl, rfl, wb⟩ := open_int Try.underlying5 (hval 2 5 v2 rfl rfl) h2
  obtain ⟨mi, rfl, hmi⟩ := byte_of wa
  obtain ⟨xe, rfl, hxe⟩ := byte_of wb
  clear hval0
  obtain ⟨M, last, o, w', t', r1, r2, r3, r4⟩ := law_refuses W (pc := pc) hp hmi hxe
  refine ⟨M, last, o, w', t', r1, r2, r3, r4.mono fun v hF => ?_⟩
  obtain ⟨rfl, hl⟩ := hF
  exact left_close laidOut Try.underlying4 rfl rfl (by decide +kernel) rfl hW' hl

theorem said : Rows.SchedRefusesSaid :=
  OpenClaim.holds_of_wide_leaving 6 Try.f6 rfl rfl rfl rfl rfl rfl rfl ⟨rfl, rfl, rfl, rfl, rfl⟩ rfl rfl rfl rfl rfl (by kernel_rfl) Try.func6 (by kernel_rfl)
    (of_decide_eq_true (by kernel_rfl)) (by unfold Func.isWrapper; first | (rw [if_pos (by decide +kernel)]; kernel_rfl) | (rw [if_neg (by decide +kernel)]; exact ⟨rfl, rfl⟩))
    (fun os started H enc _ => lifted os started H enc)
#print axioms said
end schedRefuses
end Go.Proofs.Ytggfcdhkgldbfaa
