/- Names. -/
import Derived.Test.YtggdpckdlcngpaaDoorL6
set_option linter.unusedVariables false
set_option linter.unusedSimpArgs false
namespace Go.Proofs.YtggdpckdlcngpaaDoor
open Abs Go.RowKit

def innerB (c : UInt8) : Bool := isInner c.toNat
def largeB (c : UInt8) : Bool := isLarge c.toNat

def nameKind (w : List UInt8) : Int := match w with
  | [] => 0
  | c :: _ => if largeB c then 4 else if keyP w then 6 else 3

theorem name_call (s : List UInt8) (hs : s.length < 4294967281) (r t i : Nat) (hi : i < s.length) (h : Hp) (c : Nat) (d : List (Nat × List AV)) (hr : h r = some (rdr s i)) (hrt : r ≠ t) (a : Nat) (ht : h t = some (tokO 0 [] 0 a)) (w : List UInt8)
    (hw : w = (s.drop i).takeWhile innerB) (hne : w ≠ []) :
    Does X 29 [.ptr r 0, .ptr t 0] ⟨h, c, d⟩ fun v s' => if 16 < w.length then v = .int .i64 12 ∧ ∃ o, s' = ⟨upd (upd h r (rdr s (i + w.length))) t o, c, d⟩ ∧ o = tokO 0 w 0 a else v = .int .i64 0 ∧ s' = ⟨upd (upd h r (rdr s (i + w.length))) t (tokO (nameKind w) w 0 a), c, d⟩ := by
  refine call_aw b29 rfl rfl rfl ?_; delta b29
  simp -dsimp -implicitDefEqProofs only [go_sem, Nat.reduceAdd, Nat.reduceEqDiff, reduceIte, reduceCtorEq, Nat.reduceLeDiff, Nat.reduceLT, Nat.reduceSub, Int.reduceEq, Int.reduceLT]
  refine DoesK_of (run_call s hs innerB 42 (fun c st => inner_call _ st) r i (by omega) _ _ _ hr) ?_
  rintro v s' ⟨rfl, rfl⟩
  have hu : ∀ h o, upd h r o t = h t := fun h o => upd_ne h o (Ne.symm hrt)
  have hsp : spanN innerB (s.drop i) = w.length := by rw [hw]; rfl
  rw [← hw, hsp]
  obtain ⟨b, l, hbl⟩ : ∃ b l, w = b :: l := by cases w with | nil => exact absurd rfl hne | cons b l => exact ⟨b, l, rfl⟩
  simp -dsimp -implicitDefEqProofs only [go_sem, Nat.reduceAdd, Nat.reduceEqDiff, reduceIte, reduceCtorEq, Nat.reduceLeDiff, Nat.reduceLT, Nat.reduceSub, Int.reduceEq, Int.reduceLT, hu, ht, tokO, tokC]
  refine CondV_split (fun hc => ?_) fun hc => ?_
  · simp -dsimp -implicitDefEqProofs only [go_sem, Nat.reduceAdd, Nat.reduceEqDiff, reduceIte, reduceCtorEq, Nat.reduceLeDiff, Nat.reduceLT, Nat.reduceSub, Int.reduceEq, Int.reduceLT, hu, ht, tokO, tokC]
    have : 16 < w.length := by simp at hc; omega
    rw [if_pos this]
    exact ⟨_, rfl, rfl⟩
  · have hc' : ¬ 16 < w.length := by simp at hc; omega
    have h0 : strAt (.int .i64 0) (.str w) = some (.int .u8 b.toNat) := by rw [hbl]; rfl
    simp -dsimp -implicitDefEqProofs only [go_sem, Nat.reduceAdd, Nat.reduceEqDiff, reduceIte, reduceCtorEq, Nat.reduceLeDiff, Nat.reduceLT, Nat.reduceSub, Int.reduceEq, Int.reduceLT, hu, ht, tokO, tokC, h0, hc']
    refine DoesK_of (large_call _ _) ?_
    rintro v s' ⟨rfl, rfl⟩
    simp -dsimp -implicitDefEqProofs only [go_sem, Nat.reduceAdd, Nat.reduceEqDiff, reduceIte, reduceCtorEq, Nat.reduceLeDiff, Nat.reduceLT, Nat.reduceSub, Int.reduceEq, Int.reduceLT]
    refine CondV_split (fun hq => ?_) fun hq => ?_
    · simp -dsimp -implicitDefEqProofs only [go_sem, Nat.reduceAdd, Nat.reduceEqDiff, reduceIte, reduceCtorEq, Nat.reduceLeDiff, Nat.reduceLT, Nat.reduceSub, Int.reduceEq, Int.reduceLT, hu, ht, tokO, tokC, h0, hc']
      rw [hbl]; simp [nameKind, largeB, hq]
    · simp -dsimp -implicitDefEqProofs only [go_sem, Nat.reduceAdd, Nat.reduceEqDiff, reduceIte, reduceCtorEq, Nat.reduceLeDiff, Nat.reduceLT, Nat.reduceSub, Int.reduceEq, Int.reduceLT, hu, ht, tokO, tokC, h0]
      refine DoesK_of (key_call _ (by omega) _) ?_
      rintro v s' ⟨rfl, rfl⟩
      simp -dsimp -implicitDefEqProofs only [go_sem, Nat.reduceAdd, Nat.reduceEqDiff, reduceIte, reduceCtorEq, Nat.reduceLeDiff, Nat.reduceLT, Nat.reduceSub, Int.reduceEq, Int.reduceLT]
      refine CondV_split (fun hk => ?_) fun hk => ?_
      · simp -dsimp -implicitDefEqProofs only [go_sem, Nat.reduceAdd, Nat.reduceEqDiff, reduceIte, reduceCtorEq, Nat.reduceLeDiff, Nat.reduceLT, Nat.reduceSub, Int.reduceEq, Int.reduceLT, hu, ht, tokO, tokC, h0, hc']
        rw [hbl] at hk ⊢; simp [nameKind, largeB, hq, hk]
      · simp -dsimp -implicitDefEqProofs only [go_sem, Nat.reduceAdd, Nat.reduceEqDiff, reduceIte, reduceCtorEq, Nat.reduceLeDiff, Nat.reduceLT, Nat.reduceSub, Int.reduceEq, Int.reduceLT, hu, ht, tokO, tokC, h0, hc']
        rw [hbl] at hk ⊢; simp [nameKind, largeB, hq, hk]

end Go.Proofs.YtggdpckdlcngpaaDoor
