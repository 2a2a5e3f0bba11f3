/- What the rows of this seat ask besides the walks. -/
import Derived.Test.YtggdpckdlcngpaaDoorBr
import Derived.Test.YtggdpckdlcngpaaDoorLA
import Derived.Test.YtggdpckdlcngpaaDoorRows
import Derived.Test.YtggdpckdlcngpaaDoorTie
import Derived.Test.YtggdpckdlcngpaaDoorCards
import Derived.Lay
set_option linter.unusedVariables false
set_option linter.unusedSimpArgs false
set_option maxRecDepth 100000
namespace Go.Proofs.YtggdpckdlcngpaaDoor
open Abs Go.RowKit Go.WideShapes Go.ChangeShapes Go.ChangeAt
open Go.ChangeMaps (open_string shut_string)

theorem own_ : ownKnob Tryd.prog.godebug = none := by kernel_rfl
theorem mixed_ : Tryd.prog.follows .mixedOrders = true := by kernel_rfl
theorem codeOK : CodeOK X := fun f af h => code_ok h

abbrev laidL : List (String × DataW Unit) := [("unicode/utf8.acceptRanges", Rows.laid_unicode_utf8_acceptRanges), ("unicode/utf8.first", Rows.laid_unicode_utf8_first)]

theorem laid_met (os : Os) (args : Array Value) : laidMetH Tryd.prog laidL ((World.laidAll Tryd.prog os laidL).forCall (fun _ _ => 0) ⟨#[], args, []⟩).memory := by
  rw [MakeChecks.laidMetH_plain _ _ _ (by kernel_rfl)]; exact laidMet_laidAll _ (by kernel_rfl) (by kernel_rfl)

/-- A law that answers true, from a world that the form speaks of. -/
theorem law_true {W : World} (hsh : W.ShapedOpen Tryd.prog) {f : Nat} {args : List AV} {cargs : Array Value} (ha : VRs (G0 W) args cargs.toList)
    (h : Does X f args s0 fun v _ => v = .bool true) : Calls Tryd.prog f cargs W fun e W' => e = .returned (.bool true) ∧ Below W.heap.size W W' :=
  law_calls (X := X) mixed_ codeOK (orc_ok hsh) ha h


theorem i64_range {n : Int} (h : (Lit.int .i64 n).wf = true) : -9223372036854775808 ≤ n ∧ n ≤ 9223372036854775807 := by
  simp only [Lit.wf, Bool.and_eq_true, decide_eq_true_eq] at h
  exact h

end Go.Proofs.YtggdpckdlcngpaaDoor
