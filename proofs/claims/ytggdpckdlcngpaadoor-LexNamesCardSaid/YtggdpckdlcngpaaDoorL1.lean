/- What the functions on single bytes answer. -/
import Derived.Test.YtggdpckdlcngpaaDoorOrc
set_option linter.unusedVariables false
set_option linter.unusedSimpArgs false
namespace Go.Proofs.YtggdpckdlcngpaaDoor
open Abs Go.RowKit


def isDigit (c : Int) : Bool := decide (48 ≤ c) && decide (c ≤ 57)
def isSmall (c : Int) : Bool := decide (97 ≤ c) && decide (c ≤ 122)
def isLarge (c : Int) : Bool := decide (65 ≤ c) && decide (c ≤ 90)
def isInner (c : Int) : Bool := isSmall c || (isLarge c || (isDigit c || decide (c = 95)))

theorem digit_call (c : Int) (s : ASt) : Does X 24 [.int .u8 c] s fun v s' => v = .bool (isDigit c) ∧ s' = s := by
  obtain ⟨h, n, d⟩ := s
  refine call_aw b24 rfl rfl rfl ?_; delta b24
  simp -dsimp -implicitDefEqProofs only [go_sem, Nat.reduceAdd, Nat.reduceEqDiff, reduceIte, reduceCtorEq, Nat.reduceLeDiff, Nat.reduceLT, Nat.reduceSub, Int.reduceEq, Int.reduceLT]
  refine CondV_split (fun hc => ?_) fun hc => ?_ <;> simp -dsimp -implicitDefEqProofs only [go_sem, Nat.reduceAdd, Nat.reduceEqDiff, reduceIte, reduceCtorEq, Nat.reduceLeDiff, Nat.reduceLT, Nat.reduceSub, Int.reduceEq, Int.reduceLT, hc] <;> simp_all [isDigit] <;> (intros; omega)

theorem small_call (c : Int) (s : ASt) : Does X 27 [.int .u8 c] s fun v s' => v = .bool (isSmall c) ∧ s' = s := by
  obtain ⟨h, n, d⟩ := s
  refine call_aw b27 rfl rfl rfl ?_; delta b27
  simp -dsimp -implicitDefEqProofs only [go_sem, Nat.reduceAdd, Nat.reduceEqDiff, reduceIte, reduceCtorEq, Nat.reduceLeDiff, Nat.reduceLT, Nat.reduceSub, Int.reduceEq, Int.reduceLT]
  refine CondV_split (fun hc => ?_) fun hc => ?_ <;> simp -dsimp -implicitDefEqProofs only [go_sem, Nat.reduceAdd, Nat.reduceEqDiff, reduceIte, reduceCtorEq, Nat.reduceLeDiff, Nat.reduceLT, Nat.reduceSub, Int.reduceEq, Int.reduceLT, hc] <;> simp_all [isSmall] <;> (intros; omega)

theorem large_call (c : Int) (s : ASt) : Does X 28 [.int .u8 c] s fun v s' => v = .bool (isLarge c) ∧ s' = s := by
  obtain ⟨h, n, d⟩ := s
  refine call_aw b28 rfl rfl rfl ?_; delta b28
  simp -dsimp -implicitDefEqProofs only [go_sem, Nat.reduceAdd, Nat.reduceEqDiff, reduceIte, reduceCtorEq, Nat.reduceLeDiff, Nat.reduceLT, Nat.reduceSub, Int.reduceEq, Int.reduceLT]
  refine CondV_split (fun hc => ?_) fun hc => ?_ <;> simp -dsimp -implicitDefEqProofs only [go_sem, Nat.reduceAdd, Nat.reduceEqDiff, reduceIte, reduceCtorEq, Nat.reduceLeDiff, Nat.reduceLT, Nat.reduceSub, Int.reduceEq, Int.reduceLT, hc] <;> simp_all [isLarge] <;> (intros; omega)

theorem rdigit_call (c : Int) (s : ASt) : Does X 32 [.int .u8 c] s fun v s' => v = .bool (isDigit c) ∧ s' = s := by
  obtain ⟨h, n, d⟩ := s
  refine call_aw b32 rfl rfl rfl ?_; delta b32
  simp -dsimp -implicitDefEqProofs only [go_sem, Nat.reduceAdd, Nat.reduceEqDiff, reduceIte, reduceCtorEq, Nat.reduceLeDiff, Nat.reduceLT, Nat.reduceSub, Int.reduceEq, Int.reduceLT]
  refine CondV_split (fun hc => ?_) fun hc => ?_ <;> simp -dsimp -implicitDefEqProofs only [go_sem, Nat.reduceAdd, Nat.reduceEqDiff, reduceIte, reduceCtorEq, Nat.reduceLeDiff, Nat.reduceLT, Nat.reduceSub, Int.reduceEq, Int.reduceLT, hc] <;> simp_all [isDigit] <;> (intros; omega)

theorem rsmall_call (c : Int) (s : ASt) : Does X 34 [.int .u8 c] s fun v s' => v = .bool (isSmall c) ∧ s' = s := by
  obtain ⟨h, n, d⟩ := s
  refine call_aw b34 rfl rfl rfl ?_; delta b34
  simp -dsimp -implicitDefEqProofs only [go_sem, Nat.reduceAdd, Nat.reduceEqDiff, reduceIte, reduceCtorEq, Nat.reduceLeDiff, Nat.reduceLT, Nat.reduceSub, Int.reduceEq, Int.reduceLT]
  refine CondV_split (fun hc => ?_) fun hc => ?_ <;> simp -dsimp -implicitDefEqProofs only [go_sem, Nat.reduceAdd, Nat.reduceEqDiff, reduceIte, reduceCtorEq, Nat.reduceLeDiff, Nat.reduceLT, Nat.reduceSub, Int.reduceEq, Int.reduceLT, hc] <;> simp_all [isSmall] <;> (intros; omega)

theorem rlarge_call (c : Int) (s : ASt) : Does X 35 [.int .u8 c] s fun v s' => v = .bool (isLarge c) ∧ s' = s := by
  obtain ⟨h, n, d⟩ := s
  refine call_aw b35 rfl rfl rfl ?_; delta b35
  simp -dsimp -implicitDefEqProofs only [go_sem, Nat.reduceAdd, Nat.reduceEqDiff, reduceIte, reduceCtorEq, Nat.reduceLeDiff, Nat.reduceLT, Nat.reduceSub, Int.reduceEq, Int.reduceLT]
  refine CondV_split (fun hc => ?_) fun hc => ?_ <;> simp -dsimp -implicitDefEqProofs only [go_sem, Nat.reduceAdd, Nat.reduceEqDiff, reduceIte, reduceCtorEq, Nat.reduceLeDiff, Nat.reduceLT, Nat.reduceSub, Int.reduceEq, Int.reduceLT, hc] <;> simp_all [isLarge] <;> (intros; omega)

theorem inner_call (c : Int) (s : ASt) : Does X 42 [.int .u8 c] s fun v s' => v = .bool (isInner c) ∧ s' = s := by
  obtain ⟨h, n, d⟩ := s
  refine call_aw b42 rfl rfl rfl ?_; delta b42
  simp -dsimp -implicitDefEqProofs only [go_sem, Nat.reduceAdd, Nat.reduceEqDiff, reduceIte, reduceCtorEq, Nat.reduceLeDiff, Nat.reduceLT, Nat.reduceSub, Int.reduceEq, Int.reduceLT]
  refine DoesK_of (small_call _ _) ?_
  rintro v s' ⟨rfl, rfl⟩
  simp -dsimp -implicitDefEqProofs only [go_sem, Nat.reduceAdd, Nat.reduceEqDiff, reduceIte, reduceCtorEq, Nat.reduceLeDiff, Nat.reduceLT, Nat.reduceSub, Int.reduceEq, Int.reduceLT]
  refine CondV_split (fun hc => ?_) fun hc => ?_
  · have h1 : isSmall c = false := by simpa using hc
    simp -dsimp -implicitDefEqProofs only [go_sem, Nat.reduceAdd, Nat.reduceEqDiff, reduceIte, reduceCtorEq, Nat.reduceLeDiff, Nat.reduceLT, Nat.reduceSub, Int.reduceEq, Int.reduceLT, h1]
    refine DoesK_of (large_call _ _) ?_
    rintro v s' ⟨rfl, rfl⟩
    simp -dsimp -implicitDefEqProofs only [go_sem, Nat.reduceAdd, Nat.reduceEqDiff, reduceIte, reduceCtorEq, Nat.reduceLeDiff, Nat.reduceLT, Nat.reduceSub, Int.reduceEq, Int.reduceLT]
    refine CondV_split (fun hc => ?_) fun hc => ?_
    · have h2 : isLarge c = false := by simpa using hc
      simp -dsimp -implicitDefEqProofs only [go_sem, Nat.reduceAdd, Nat.reduceEqDiff, reduceIte, reduceCtorEq, Nat.reduceLeDiff, Nat.reduceLT, Nat.reduceSub, Int.reduceEq, Int.reduceLT, h1, h2]
      refine DoesK_of (digit_call _ _) ?_
      rintro v s' ⟨rfl, rfl⟩
      simp -dsimp -implicitDefEqProofs only [go_sem, Nat.reduceAdd, Nat.reduceEqDiff, reduceIte, reduceCtorEq, Nat.reduceLeDiff, Nat.reduceLT, Nat.reduceSub, Int.reduceEq, Int.reduceLT]
      refine CondV_split (fun hc => ?_) fun hc => ?_
      · have h3 : isDigit c = false := by simpa using hc
        simp -dsimp -implicitDefEqProofs only [go_sem, Nat.reduceAdd, Nat.reduceEqDiff, reduceIte, reduceCtorEq, Nat.reduceLeDiff, Nat.reduceLT, Nat.reduceSub, Int.reduceEq, Int.reduceLT, h1, h2, h3]
        simp [isInner, h1, h2, h3]
      · have h3 : isDigit c = true := by simpa using hc
        simp -dsimp -implicitDefEqProofs only [go_sem, Nat.reduceAdd, Nat.reduceEqDiff, reduceIte, reduceCtorEq, Nat.reduceLeDiff, Nat.reduceLT, Nat.reduceSub, Int.reduceEq, Int.reduceLT, h1, h2, h3]
        simp [isInner, h1, h2, h3]
    · have h2 : isLarge c = true := by simpa using hc
      simp -dsimp -implicitDefEqProofs only [go_sem, Nat.reduceAdd, Nat.reduceEqDiff, reduceIte, reduceCtorEq, Nat.reduceLeDiff, Nat.reduceLT, Nat.reduceSub, Int.reduceEq, Int.reduceLT, h1, h2]
      simp [isInner, h1, h2]
  · have h1 : isSmall c = true := by simpa using hc
    simp -dsimp -implicitDefEqProofs only [go_sem, Nat.reduceAdd, Nat.reduceEqDiff, reduceIte, reduceCtorEq, Nat.reduceLeDiff, Nat.reduceLT, Nat.reduceSub, Int.reduceEq, Int.reduceLT, h1]
    simp [isInner, h1]

end Go.Proofs.YtggdpckdlcngpaaDoor
