/- Prefixes; the reader's signs. -/
import Derived.Test.YtggdpckdlcngpaaDoorL3
set_option linter.unusedVariables false
set_option linter.unusedSimpArgs false
namespace Go.Proofs.YtggdpckdlcngpaaDoor
open Abs Go.RowKit

theorem hasPrefix0_call (s p : List UInt8) (st : ASt) : Does X 56 [.str s, .str p] st fun v s' => v = .bool (decide (s.take p.length = p)) ∧ s' = st := by
  obtain ⟨h, c, d⟩ := st
  refine call_aw b56 rfl rfl rfl ?_; delta b56
  simp -dsimp -implicitDefEqProofs only [go_sem, Nat.reduceAdd, Nat.reduceEqDiff, reduceIte, reduceCtorEq, Nat.reduceLeDiff, Nat.reduceLT, Nat.reduceSub, Int.reduceEq, Int.reduceLT]
  refine CondV_split (fun hc => ?_) fun hc => ?_
  · have hl : p.length ≤ s.length := by simp at hc; omega
    simp -dsimp -implicitDefEqProofs only [go_sem, Nat.reduceAdd, Nat.reduceEqDiff, reduceIte, reduceCtorEq, Nat.reduceLeDiff, Nat.reduceLT, Nat.reduceSub, Int.reduceEq, Int.reduceLT, hc, hl]
  · have hl : ¬ p.length ≤ s.length := by simp at hc; omega
    simp -dsimp -implicitDefEqProofs only [go_sem, Nat.reduceAdd, Nat.reduceEqDiff, reduceIte, reduceCtorEq, Nat.reduceLeDiff, Nat.reduceLT, Nat.reduceSub, Int.reduceEq, Int.reduceLT, hc]
    have : ¬ s.take p.length = p := fun e => hl (by have := congrArg List.length e; simp at this; omega)
    simp [this]

theorem hasPrefix_call (s p : List UInt8) (st : ASt) : Does X 44 [.str s, .str p] st fun v s' => v = .bool (decide (s.take p.length = p)) ∧ s' = st := by
  obtain ⟨h, c, d⟩ := st
  refine call_aw b44 rfl rfl rfl ?_; delta b44
  simp -dsimp -implicitDefEqProofs only [go_sem, Nat.reduceAdd, Nat.reduceEqDiff, reduceIte, reduceCtorEq, Nat.reduceLeDiff, Nat.reduceLT, Nat.reduceSub, Int.reduceEq, Int.reduceLT]
  refine DoesK_of (hasPrefix0_call _ _ _) ?_
  rintro v s' ⟨rfl, rfl⟩
  simp -dsimp -implicitDefEqProofs only [go_sem, Nat.reduceAdd, Nat.reduceEqDiff, reduceIte, reduceCtorEq, Nat.reduceLeDiff, Nat.reduceLT, Nat.reduceSub, Int.reduceEq, Int.reduceLT]

theorem odd_call (a b : AV) (st : ASt) : Does X 23 [a, b] st fun v s' => v = .int .i64 10 ∧ s' = st := by
  obtain ⟨h, c, d⟩ := st
  refine call_aw b23 rfl rfl rfl ?_; delta b23
  simp -dsimp -implicitDefEqProofs only [go_sem, Nat.reduceAdd, Nat.reduceEqDiff, reduceIte, reduceCtorEq, Nat.reduceLeDiff, Nat.reduceLT, Nat.reduceSub, Int.reduceEq, Int.reduceLT]

end Go.Proofs.YtggdpckdlcngpaaDoor
