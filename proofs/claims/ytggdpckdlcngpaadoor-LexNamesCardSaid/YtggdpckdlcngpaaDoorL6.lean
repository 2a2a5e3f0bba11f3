/- Keys. -/
import Derived.Test.YtggdpckdlcngpaaDoorL5
set_option linter.unusedVariables false
set_option linter.unusedSimpArgs false
namespace Go.Proofs.YtggdpckdlcngpaaDoor
open Abs Go.RowKit

def keysText : List UInt8 := [32, 108, 101, 116, 32, 114, 101, 99, 32, 105, 110, 32, 102, 117, 110, 32, 105, 102, 32, 116, 104, 101, 110, 32, 101, 108, 115, 101, 32, 109, 97, 116, 99, 104, 32, 119, 105, 116, 104, 32, 101, 110, 100, 32, 116, 114, 121, 32, 112, 114, 105, 110, 116, 32, 114, 97, 105, 115, 101, 32, 115, 112, 97, 119, 110, 32, 97, 116, 111, 109, 105, 99, 97, 108, 108, 121, 32, 114, 101, 116, 114, 121, 32, 111, 114, 101, 108, 115, 101, 32, 116, 118, 97, 114, 32, 114, 101, 97, 100, 32, 119, 114, 105, 116, 101, 32, 116, 121, 112, 101, 32, 111, 102, 32, 100, 111, 32]

def keyP (s : List UInt8) : Bool := decide (s ≠ []) && (!Lib.contains s [32] && Lib.contains keysText ([32] ++ s ++ [32]))

theorem key_call (s : List UInt8) (hs : s.length < 4294967281) (st : ASt) : Does X 15 [.str s] st fun v s' => v = .bool (keyP s) ∧ s' = st := by
  obtain ⟨h, c, d⟩ := st
  refine call_aw b15 rfl rfl rfl ?_; delta b15
  simp -dsimp -implicitDefEqProofs only [go_sem, Nat.reduceAdd, Nat.reduceEqDiff, reduceIte, reduceCtorEq, Nat.reduceLeDiff, Nat.reduceLT, Nat.reduceSub, Int.reduceEq, Int.reduceLT]
  refine CondV_split (fun hc => ?_) fun hc => ?_
  · simp -dsimp -implicitDefEqProofs only [go_sem, Nat.reduceAdd, Nat.reduceEqDiff, reduceIte, reduceCtorEq, Nat.reduceLeDiff, Nat.reduceLT, Nat.reduceSub, Int.reduceEq, Int.reduceLT, hc]
    refine DoesK_of (contains_call _ _ hs _) ?_
    rintro v s' ⟨rfl, rfl⟩
    simp -dsimp -implicitDefEqProofs only [go_sem, Nat.reduceAdd, Nat.reduceEqDiff, reduceIte, reduceCtorEq, Nat.reduceLeDiff, Nat.reduceLT, Nat.reduceSub, Int.reduceEq, Int.reduceLT, hc]
    refine CondV_split (fun hq => ?_) fun hq => ?_
    · have hq' : (!Lib.contains s [32]) = true := by simpa using hq
      have hl : 1 + s.length ≤ 9223372036854775807 := by omega
      have hl2 : s.length ≤ 9223372036854775805 := by omega
      simp -dsimp -implicitDefEqProofs only [go_sem, Nat.reduceAdd, Nat.reduceEqDiff, reduceIte, reduceCtorEq, Nat.reduceLeDiff, Nat.reduceLT, Nat.reduceSub, Int.reduceEq, Int.reduceLT, hc, hq', List.length_append, hl, hl2]
      refine DoesK_of (contains_call keysText _ (by decide) _) ?_
      rintro v s' ⟨rfl, rfl⟩
      simp -dsimp -implicitDefEqProofs only [go_sem, Nat.reduceAdd, Nat.reduceEqDiff, reduceIte, reduceCtorEq, Nat.reduceLeDiff, Nat.reduceLT, Nat.reduceSub, Int.reduceEq, Int.reduceLT, hc, hq']
      simp only [keyP, hc, hq']
      rfl
    · have hq' : (!Lib.contains s [32]) = false := by simpa using hq
      simp -dsimp -implicitDefEqProofs only [go_sem, Nat.reduceAdd, Nat.reduceEqDiff, reduceIte, reduceCtorEq, Nat.reduceLeDiff, Nat.reduceLT, Nat.reduceSub, Int.reduceEq, Int.reduceLT, hc, hq']
      simp [keyP, hq']
  · simp -dsimp -implicitDefEqProofs only [go_sem, Nat.reduceAdd, Nat.reduceEqDiff, reduceIte, reduceCtorEq, Nat.reduceLeDiff, Nat.reduceLT, Nat.reduceSub, Int.reduceEq, Int.reduceLT, hc]
    simp only [keyP, hc]
    rfl

end Go.Proofs.YtggdpckdlcngpaaDoor
