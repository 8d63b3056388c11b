/-
  THE SYMBOLS, plain and as the variable holds them.
-/
import Derived.Test.YtemihmehppbgmaaDoorSymIx
namespace Go.Proofs.YtemihmehppbgmaaDoor
open Go.RowKit

/-- The symbols, as the package's variable holds them. -/
def symB : List ByteArray := [⟨#[58, 45]⟩, ⟨#[33, 61]⟩, ⟨#[60, 61]⟩, ⟨#[62, 61]⟩, ⟨#[40]⟩, ⟨#[41]⟩, ⟨#[44]⟩, ⟨#[59]⟩, ⟨#[124]⟩, ⟨#[61]⟩, ⟨#[60]⟩, ⟨#[62]⟩]
theorem symB_len : symB.length = 12 := rfl
theorem sym_lists : symB.map (fun b => b.data.toList) = symL := rfl
theorem sym_get {k : Nat} (h : k < 12) (h' : k < symL.length) : symL[k]'h' = (symB[k]'h).data.toList := by
  have : ∀ k : Fin 12, symL[k.val]'(k.isLt) = (symB[k.val]'(k.isLt)).data.toList := by decide
  exact this ⟨k, h⟩
/-- The variable lexer.symbols holds them. -/
def SymAt (w : World) : Prop := ∀ j (h : j < 12), w.cell? ⟨0, j, none⟩ = some (.string (symB[j]'h))
theorem SymAt.below {w w' : World} (h : SymAt w) (hb : Below w.heap.size w w') : SymAt w' := fun j hj => cell_keep hb (h j hj)
/-- What chapter 18 asks of the world. -/
structure EnvL (w : World) : Prop where
  env : Env w
  sym : SymAt w
theorem EnvL.below {w w' : World} (h : EnvL w) (hb : Below w.heap.size w w') : EnvL w' := ⟨h.env.below hb, h.sym.below hb⟩

theorem num_ways (s : ByteArray) (h0 : 0 < s.size) {b : Bool} (hb : numB s.data.toList = b) :
    (b = true ∧ digB s[0] = true) ∨ (∃ h1 : 1 < s.size, b = true ∧ digB s[0] = false ∧ s[0].toNat = 45 ∧ digB s[1] = true) ∨ (b = false ∧ digB s[0] = false ∧ s[0].toNat ≠ 45) ∨ (b = false ∧ digB s[0] = false ∧ s[0].toNat = 45 ∧ s.size ≤ 1) ∨ (∃ h1 : 1 < s.size, b = false ∧ digB s[0] = false ∧ s[0].toNat = 45 ∧ digB s[1] = false) := by
  subst hb
  unfold numB
  have hl : s.data.toList.length = s.size := by simp
  rw [getD_of h0, hl]
  cases hd : digB s[0]
  · by_cases h45 : s[0].toNat = 45
    · have e : (s[0] == 45) = true := by have : s[0] = 45 := UInt8.toNat.inj h45; rw [this]; rfl
      by_cases h1 : 1 < s.size
      · rw [getD_of h1]
        cases hd1 : digB s[1]
        · right; right; right; right; exact ⟨h1, by simp, rfl, h45, hd1⟩
        · right; left; exact ⟨h1, by simp [e, h1], rfl, h45, hd1⟩
      · right; right; right; left; exact ⟨by simp [h1], rfl, h45, by omega⟩
    · have e : (s[0] == 45) = false := by simpa using fun e => h45 (congrArg UInt8.toNat e)
      right; right; left; exact ⟨by simp [e], rfl, h45⟩
  · left; exact ⟨by simp, rfl⟩

theorem symTok_at {r : List UInt8} {a : Int} : symTok r a = match symL.find? (fun y => y.isPrefixOf r) with
  | some y => (⟨4, y, V0, a⟩, 0)
  | none => (T0, 15) := rfl
theorem find_found {r : List UInt8} {k : Nat} (hk : k < 12) (hn : ∀ j (h : j < k), (symB[j]'(by rw [symB_len]; omega)).data.toList.isPrefixOf r = false) (hy : (symB[k]'hk).data.toList.isPrefixOf r = true) (a : Int) :
    symTok r a = (⟨4, (symB[k]'hk).data.toList, V0, a⟩, 0) := by
  have h : symL.find? (fun y => y.isPrefixOf r) = some (symB[k]'hk).data.toList := by
    rw [List.find?_eq_some_iff_getElem]
    refine ⟨hy, k, hk, sym_get hk _, fun j hj => ?_⟩
    have hj' : j < 12 := by omega
    have e : (symL[j]'(show j < symL.length from hj')).isPrefixOf r = false := by rw [sym_get hj' _]; exact hn j hj
    simpa using e
  rw [symTok_at, h]
theorem find_none {r : List UInt8} (hn : ∀ j (h : j < 12), (symB[j]'h).data.toList.isPrefixOf r = false) (a : Int) : symTok r a = (T0, 15) := by
  have h : symL.find? (fun y => y.isPrefixOf r) = none := by
    rw [List.find?_eq_none]
    intro y hy
    obtain ⟨j, hj, rfl⟩ := List.getElem_of_mem hy
    have hj' : j < 12 := hj
    rw [sym_get hj' _, hn j hj']; decide
  rw [symTok_at, h]
theorem hasP (s p : ByteArray) (w : World) {b : Bool} (h : p.data.toList.isPrefixOf s.data.toList = b) :
    Calls Tryd.prog 27 #[.string s, .string p] w fun e w' => e = .returned (.bool b) ∧ w = w' := by
  refine (Tryd.strings_HasPrefix s p w).mono fun e w' ⟨h1, h2⟩ => ⟨?_, h2.symm⟩
  rw [h1]
  exact ret_b h
theorem prefix_lib (r y : List UInt8) : Lib.hasPrefix r y = y.isPrefixOf r := rfl

end Go.Proofs.YtemihmehppbgmaaDoor
