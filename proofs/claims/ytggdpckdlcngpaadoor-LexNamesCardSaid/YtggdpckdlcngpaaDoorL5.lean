/- The reader's signs. -/
import Derived.Test.YtggdpckdlcngpaaDoorL4
set_option linter.unusedVariables false
set_option linter.unusedSimpArgs false
namespace Go.Proofs.YtggdpckdlcngpaaDoor
open Abs Go.RowKit

/-- A token's cells. -/
def tokC (k : Int) (t : List UInt8) (n : Int) (a : Nat) : List AV := [.int .i64 k, .str t, .int .i64 n, .int .i64 (a : Int)]
def tokO (k : Int) (t : List UInt8) (n : Int) (a : Nat) : AObj := .cells (tokC k t n a)

theorem sign_call (s : List UInt8) (hs : s.length < 4294967281) (r t i : Nat) (hi : i < s.length) (h : Hp) (c : Nat) (d : List (Nat × List AV)) (hr : h r = some (rdr s i)) (hrt : r ≠ t) (a : Nat) (ht : h t = some (tokO 0 [] 0 a)) (n : Nat)
    (hn : n = if (s.drop i).take 2 = [45, 62] then 2 else 1) :
    Does X 31 [.ptr r 0, .ptr t 0] ⟨h, c, d⟩ fun v s' => v = .int .i64 0 ∧ s' = ⟨upd (upd h t (tokO 5 ((s.drop i).take n) 0 a)) r (rdr s (i + n)), c, d⟩ := by
  refine call_aw b31 rfl rfl rfl ?_; delta b31
  have hil : i ≤ s.length := by omega
  simp -dsimp -implicitDefEqProofs only [go_sem, Nat.reduceAdd, Nat.reduceEqDiff, reduceIte, reduceCtorEq, Nat.reduceLeDiff, Nat.reduceLT, Nat.reduceSub, Int.reduceEq, Int.reduceLT, hr, rdr, hil]
  refine DoesK_of (hasPrefix_call _ _ _) ?_
  rintro v s' ⟨rfl, rfl⟩
  have hin : i + n ≤ s.length := by
    rw [hn]; split
    · rename_i h2
      have := congrArg List.length h2
      simp at this; omega
    · omega
  have hcut : List.drop i (s.take (i + n)) = (s.drop i).take n := by rw [List.drop_take, Nat.add_sub_cancel_left]
  have hw : ∀ m : Int, m = (n : Int) → IntKind.wrap .i64 ((i : Int) + m) = ((i + n : Nat) : Int) := fun m hm => by rw [hm, wrap_i64 (by omega) (by omega)]; rfl
  have hu : ∀ h o, upd h t o r = h r := fun h o => upd_ne h o hrt
  have hle : i ≤ i + n := by omega
  simp -dsimp -implicitDefEqProofs only [go_sem, Nat.reduceAdd, Nat.reduceEqDiff, reduceIte, reduceCtorEq, Nat.reduceLeDiff, Nat.reduceLT, Nat.reduceSub, Int.reduceEq, Int.reduceLT]
  refine CondV_split (fun hc => ?_) fun hc => ?_
  · have h2 : n = 2 := by rw [hn, if_pos (by simpa using hc)]
    have hw' : IntKind.wrap .i64 ((i : Int) + 2) = ((i + n : Nat) : Int) := hw 2 (by rw [h2]; rfl)
    simp -dsimp -implicitDefEqProofs only [go_sem, Nat.reduceAdd, Nat.reduceEqDiff, reduceIte, reduceCtorEq, Nat.reduceLeDiff, Nat.reduceLT, Nat.reduceSub, Int.reduceEq, Int.reduceLT, hr, rdr, hil, hw', hle, hin, hcut, ht, tokO, tokC, hu]
  · have h2 : n = 1 := by rw [hn, if_neg (by simpa using hc)]
    have hw' : IntKind.wrap .i64 ((i : Int) + 1) = ((i + n : Nat) : Int) := hw 1 (by rw [h2]; rfl)
    simp -dsimp -implicitDefEqProofs only [go_sem, Nat.reduceAdd, Nat.reduceEqDiff, reduceIte, reduceCtorEq, Nat.reduceLeDiff, Nat.reduceLT, Nat.reduceSub, Int.reduceEq, Int.reduceLT, hr, rdr, hil, hw', hle, hin, hcut, ht, tokO, tokC, hu]

end Go.Proofs.YtggdpckdlcngpaaDoor
