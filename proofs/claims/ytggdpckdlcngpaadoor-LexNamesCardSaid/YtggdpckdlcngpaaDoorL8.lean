/- Noughts ahead are cut. -/
import Derived.Test.YtggdpckdlcngpaaDoorL7
set_option linter.unusedVariables false
set_option linter.unusedSimpArgs false
namespace Go.Proofs.YtggdpckdlcngpaaDoor
open Abs Go.RowKit

theorem trimB_call (s : List UInt8) (b : UInt8) (st : ASt) : Does X 47 [.str s, .int .u8 b.toNat] st fun v s' => v = .str (s.dropWhile (· == b)) ∧ s' = st := by
  obtain ⟨h, c, d⟩ := st
  refine call_aw b47 rfl rfl rfl ?_; delta b47
  simp -dsimp -implicitDefEqProofs only [go_sem, Nat.reduceAdd, Nat.reduceEqDiff, reduceIte, reduceCtorEq, Nat.reduceLeDiff, Nat.reduceLT, Nat.reduceSub, Int.reduceEq, Int.reduceLT]
  let I : Nat → AEnv → ASt → Prop := fun m e st => ∃ l : List UInt8, m = l.length ∧ l.dropWhile (· == b) = s.dropWhile (· == b) ∧ e.get 0 = .str l ∧ e.get 1 = .int .u8 b.toNat ∧ st = ⟨h, c, []⟩
  refine LoopK_rule I s.length ⟨s, rfl, rfl, rfl, rfl, rfl⟩ ?_
  rintro m e st ⟨l, rfl, hl, h0, h1, rfl⟩
  simp -dsimp -implicitDefEqProofs only [go_sem, Nat.reduceAdd, Nat.reduceEqDiff, reduceIte, reduceCtorEq, Nat.reduceLeDiff, Nat.reduceLT, Nat.reduceSub, Int.reduceEq, Int.reduceLT, h0, h1]
  refine CondV_split (fun hc => ?_) fun hc => ?_
  · obtain ⟨x, l', rfl⟩ : ∃ x l', l = x :: l' := by cases l with | nil => simp at hc | cons x l' => exact ⟨x, l', rfl⟩
    have hs : strAt (.int .i64 0) (.str (x :: l')) = some (.int .u8 x.toNat) := rfl
    have hc' : decide (((l'.length + 1 : Nat) : Int) > 0) = true := by simp
    simp -dsimp -implicitDefEqProofs only [go_sem, Nat.reduceAdd, Nat.reduceEqDiff, reduceIte, reduceCtorEq, Nat.reduceLeDiff, Nat.reduceLT, Nat.reduceSub, Int.reduceEq, Int.reduceLT, h0, h1, hs, hc']
    refine CondV_split (fun hq => ?_) fun hq => ?_
    · have hx : x = b := by rw [decide_eq_true_eq, byte_eq] at hq; exact hq
      have hcut : cutStr (some (.int .i64 1)) none (.str (x :: l')) = some (.str l') := by simp [cutStr, boundsA, natOf]
      simp -dsimp -implicitDefEqProofs only [go_sem, Nat.reduceAdd, Nat.reduceEqDiff, reduceIte, reduceCtorEq, Nat.reduceLeDiff, Nat.reduceLT, Nat.reduceSub, Int.reduceEq, Int.reduceLT, h0, h1, hs, hc', hq, hcut]
      refine Again.of l'.length (by simp) ⟨l', rfl, ?_, rfl, h1, rfl⟩
      rw [← hl, List.dropWhile_cons, if_pos (by simp [hx])]
    · have hx : x ≠ b := by rw [decide_eq_false_iff_not, byte_eq] at hq; exact hq
      simp -dsimp -implicitDefEqProofs only [go_sem, Nat.reduceAdd, Nat.reduceEqDiff, reduceIte, reduceCtorEq, Nat.reduceLeDiff, Nat.reduceLT, Nat.reduceSub, Int.reduceEq, Int.reduceLT, h0, h1, hs, hc', hq]
      rw [← hl, List.dropWhile_cons, if_neg (by simp [hx])]
  · obtain rfl : l = [] := by cases l with | nil => rfl | cons x l' => (simp at hc)
    have hc0 : decide (((0 : Nat) : Int) > 0) = false := by decide
    simp -dsimp -implicitDefEqProofs only [go_sem, Nat.reduceAdd, Nat.reduceEqDiff, reduceIte, reduceCtorEq, Nat.reduceLeDiff, Nat.reduceLT, Nat.reduceSub, Int.reduceEq, Int.reduceLT, h0, h1, hc0]
    rw [← hl]; rfl

theorem trim_call (s : List UInt8) (st : ASt) : Does X 38 [.str s, .str [48]] st fun v s' => v = .str (s.dropWhile (· == 48)) ∧ s' = st := by
  obtain ⟨h, c, d⟩ := st
  refine call_aw b38 rfl rfl rfl ?_; delta b38
  have h48 : strAt (.int .i64 0) (.str [48]) = some (.int .u8 48) := rfl
  have e1 : decide (([48] : List UInt8) = []) = false := rfl
  have e2 : decide (((1 : Nat) : Int) = 1) = true := rfl
  have e3 : decide ((48 : Int) < 128) = true := rfl
  cases hs : s with
  | nil =>
    have e0 : decide (([] : List UInt8) = []) = true := rfl
    simp -dsimp -implicitDefEqProofs only [go_sem, Nat.reduceAdd, Nat.reduceEqDiff, reduceIte, reduceCtorEq, Nat.reduceLeDiff, Nat.reduceLT, Nat.reduceSub, Int.reduceEq, Int.reduceLT, e0]
    rfl
  | cons x l =>
    have e0 : decide ((x :: l) = []) = false := by simp
    simp -dsimp -implicitDefEqProofs only [go_sem, Nat.reduceAdd, Nat.reduceEqDiff, reduceIte, reduceCtorEq, Nat.reduceLeDiff, Nat.reduceLT, Nat.reduceSub, Int.reduceEq, Int.reduceLT, e0, e1, e2, e3, h48]
    refine DoesK_of (trimB_call _ 48 _) ?_
    rintro v s' ⟨rfl, rfl⟩
    simp -dsimp -implicitDefEqProofs only [go_sem, Nat.reduceAdd, Nat.reduceEqDiff, reduceIte, reduceCtorEq, Nat.reduceLeDiff, Nat.reduceLT, Nat.reduceSub, Int.reduceEq, Int.reduceLT]

end Go.Proofs.YtggdpckdlcngpaaDoor
