/-
  The law's awake: what check.Check answers of its queries.
-/
import Derived.Test.YtgeapgbebbapmaaAwk
import Derived.Test.YtgeapgbebbapmaaChk7
namespace Go.Proofs.Ytgeapgbebbapmaa
open Go.RowKit
theorem chk0 {A R B : Option Addr} {w : World} (h : Calls Try.prog 13 #[qryV q0 A R none 1 1 0, .slice B S0.length 1] w (RetT w (0, ⟨[1], [[([120], 1), ([121], 2)]]⟩))) :
    Calls Try.prog 13 #[.agg #[.slice A 1 1, .int .i64 0, .string ⟨#[]⟩, .slice R 1 1, .slice none 0 0], .slice B 1 1] w fun e w' => ∃ H R' ch cr, e = .returned (.tuple #[.agg #[.slice H 1 ch, .slice R' 1 cr], .int .i64 0]) ∧ KdsAt w' H [1] ∧ VrssAt w' R' [[([120], 1), ([121], 2)]] ∧ Below w.heap.size w w' :=
  Calls.mono h fun _e _w' ⟨H, R', ch, cr, h1, h2, h3, _, _, h6⟩ => ⟨H, R', ch, cr, h1, h2, h3, h6⟩
theorem chk1 {A R B : Option Addr} {w : World} (h : Calls Try.prog 13 #[qryV q1 A R none 1 1 0, .slice B S0.length 1] w (RetT w (5, ⟨[], []⟩))) :
    Calls Try.prog 13 #[.agg #[.slice A 1 1, .int .i64 0, .string ⟨#[]⟩, .slice R 1 1, .slice none 0 0], .slice B 1 1] w fun e w' => ∃ H R' ch cr, e = .returned (.tuple #[.agg #[.slice H 0 ch, .slice R' 0 cr], .int .i64 5]) ∧ Below w.heap.size w w' :=
  Calls.mono h fun _e _w' ⟨H, R', ch, cr, h1, _, _, _, _, h6⟩ => ⟨H, R', ch, cr, h1, h6⟩
end Go.Proofs.Ytgeapgbebbapmaa
