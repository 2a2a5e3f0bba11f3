/- The document's examples; the first bytes of a text; keys by the document. -/
import Derived.Test.YtggdpckdlcngpaaDoorL16
set_option linter.unusedVariables false
set_option linter.unusedSimpArgs false
namespace Go.Proofs.YtggdpckdlcngpaaDoor
open Abs Go.RowKit

theorem idx_slice_0 (sz : Nat) (k : IntKind) (o : Own) (es : List AV) : idxV sz (.int k 0) (.slice o es) = elemA sz es[0]? := idx_slice sz k 0 o es
theorem idx_slice_1 (sz : Nat) (k : IntKind) (o : Own) (es : List AV) : idxV sz (.int k 1) (.slice o es) = elemA sz es[1]? := idx_slice sz k 1 o es
theorem idx_slice_2 (sz : Nat) (k : IntKind) (o : Own) (es : List AV) : idxV sz (.int k 2) (.slice o es) = elemA sz es[2]? := idx_slice sz k 2 o es
theorem idx_slice_3 (sz : Nat) (k : IntKind) (o : Own) (es : List AV) : idxV sz (.int k 3) (.slice o es) = elemA sz es[3]? := idx_slice sz k 3 o es

theorem toks_1 : Toks [120, 49, 45, 62, 34, 97, 34] = ([(⟨3, [120, 49], 0⟩, 0), (⟨5, [45, 62], 0⟩, 2), (⟨2, [97], 0⟩, 4), (⟨0, [], 0⟩, 7)], 0, 0) := by kernel_rfl
theorem toks_2 : Toks [65, 32, 98] = ([(⟨4, [65], 0⟩, 0), (⟨3, [98], 0⟩, 2), (⟨0, [], 0⟩, 3)], 0, 0) := by kernel_rfl
theorem toks_3 : Toks [36] = ([], 0, 10) := by kernel_rfl

theorem tokens_is {s : List UInt8} {l : List (Tk × Nat)} {a : Nat} {e : Int} (hT : Toks s = (l, a, e)) (h : Hp) (c : Nat) (d : List (Nat × List AV)) :
    Does X 11 [.str s] ⟨h, c, d⟩ fun v s' => ∃ o, v = .tuple [.slice o (l.map tkV), .int .i64 (a : Int), .int .i64 e] ∧ ∃ h' c', s' = ⟨h', c', d⟩ ∧ Fr h c h' c' [] := by
  have := tokens_call s h c d
  rw [hT] at this
  exact this

theorem lives_call (h : Hp) (c : Nat) (d : List (Nat × List AV)) : Does X 14 [] ⟨h, c, d⟩ fun v s' => v = .bool true ∧ ∃ h' c', s' = ⟨h', c', d⟩ ∧ Fr h c h' c' [] := by
  refine call_aw b14 rfl rfl rfl ?_; delta b14
  simp -dsimp -implicitDefEqProofs only [go_sem, Nat.reduceAdd, Nat.reduceEqDiff, reduceIte, reduceCtorEq, Nat.reduceLeDiff, Nat.reduceLT, Nat.reduceSub, Int.reduceEq, Int.reduceLT]
  refine DoesK_of (tokens_is toks_1 _ _ _) ?_
  rintro v s' ⟨o1, rfl, h1, c1, rfl, f1⟩
  simp -dsimp -implicitDefEqProofs only [go_sem, Nat.reduceAdd, Nat.reduceEqDiff, reduceIte, reduceCtorEq, Nat.reduceLeDiff, Nat.reduceLT, Nat.reduceSub, Int.reduceEq, Int.reduceLT]
  refine DoesK_of (tokens_is toks_2 _ _ _) ?_
  rintro v s' ⟨o2, rfl, h2, c2, rfl, f2⟩
  simp -dsimp -implicitDefEqProofs only [go_sem, Nat.reduceAdd, Nat.reduceEqDiff, reduceIte, reduceCtorEq, Nat.reduceLeDiff, Nat.reduceLT, Nat.reduceSub, Int.reduceEq, Int.reduceLT]
  refine DoesK_of (tokens_is toks_3 _ _ _) ?_
  rintro v s' ⟨o3, rfl, h3, c3, rfl, f3⟩
  simp -dsimp -implicitDefEqProofs only [go_sem, Nat.reduceAdd, Nat.reduceEqDiff, reduceIte, reduceCtorEq, Nat.reduceLeDiff, Nat.reduceLT, Nat.reduceSub, Int.reduceEq, Int.reduceLT, tkV, tokC, elemA, idx_slice_0, idx_slice_1, idx_slice_2, idx_slice_3, Int.cast_ofNat_Int]
  exact ⟨_, _, rfl, (f1.trans f2 (by simp)).trans f3 (by simp)⟩

end Go.Proofs.YtggdpckdlcngpaaDoor
