/- The reader: a run of bytes of a kind. -/
import Derived.Test.YtggdpckdlcngpaaDoorL2
set_option linter.unusedVariables false
set_option linter.unusedSimpArgs false
namespace Go.Proofs.YtggdpckdlcngpaaDoor
open Abs Go.RowKit

def spanN (p : UInt8 → Bool) (l : List UInt8) : Nat := (l.takeWhile p).length

theorem spanN_cons (p : UInt8 → Bool) (c : UInt8) (l : List UInt8) : spanN p (c :: l) = if p c = true then 1 + spanN p l else 0 := by
  unfold spanN
  rw [List.takeWhile_cons]
  split
  · simp [Nat.add_comm]
  · rfl
theorem spanN_le (p : UInt8 → Bool) (l : List UInt8) : spanN p l ≤ l.length := (List.takeWhile_prefix p).length_le
theorem spanN_take (p : UInt8 → Bool) (l : List UInt8) : l.take (spanN p l) = l.takeWhile p := (List.prefix_iff_eq_take.1 (List.takeWhile_prefix p)).symm

theorem run_call (s : List UInt8) (hs : s.length < 4294967281) (p : UInt8 → Bool) (f : Nat) (hp : ∀ (c : UInt8) (st : ASt), Does X f [.int .u8 c.toNat] st fun v s' => v = .bool (p c) ∧ s' = st) (r i : Nat) (hi : i ≤ s.length) (h : Hp) (c : Nat) (d : List (Nat × List AV)) (hr : h r = some (rdr s i)) :
    Does X 39 [.ptr r 0, .func f [] []] ⟨h, c, d⟩ fun v s' => v = .str ((s.drop i).takeWhile p) ∧ s' = ⟨upd h r (rdr s (i + spanN p (s.drop i))), c, d⟩ := by
  refine call_aw b39 rfl rfl rfl ?_; delta b39
  simp -dsimp -implicitDefEqProofs only [go_sem, Nat.reduceAdd, Nat.reduceEqDiff, reduceIte, reduceCtorEq, Nat.reduceLeDiff, Nat.reduceLT, Nat.reduceSub, Int.reduceEq, Int.reduceLT, hr, rdr]
  let I : Nat → AEnv → ASt → Prop := fun m e st => ∃ j : Nat, m = s.length - j ∧ j ≤ s.length ∧ j + spanN p (s.drop j) = i + spanN p (s.drop i) ∧ e.get 0 = .ptr r 0 ∧ e.get 1 = .func f [] [] ∧ e.get 5 = .int .i64 (i : Int) ∧ st = ⟨upd h r (rdr s j), c, []⟩
  refine LoopK_rule I (s.length - i) ⟨i, rfl, hi, rfl, rfl, rfl, rfl, by rw [upd_self _ _ _ hr]⟩ ?_
  rintro m e st ⟨j, rfl, hj, ht, h0, h1, h5, rfl⟩
  have last : j = i + spanN p (s.drop i) → List.drop i (s.take j) = (s.drop i).takeWhile p := by
    intro hj'
    subst hj'
    rw [← spanN_take, List.drop_take, Nat.add_sub_cancel_left]
  simp -dsimp -implicitDefEqProofs only [go_sem, Nat.reduceAdd, Nat.reduceEqDiff, reduceIte, reduceCtorEq, Nat.reduceLeDiff, Nat.reduceLT, Nat.reduceSub, Int.reduceEq, Int.reduceLT, h0, h1, h5, rdr]
  refine CondV_split (fun hc => ?_) fun hc => ?_
  · have hj' : j < s.length := by simpa using hc
    have hg := List.getElem?_eq_getElem hj'
    have hd : s.drop j = s[j] :: s.drop (j + 1) := List.drop_eq_getElem_cons hj'
    have hc' : decide ((j : Int) < (s.length : Int)) = true := by simpa using hj'
    simp -dsimp -implicitDefEqProofs only [go_sem, Nat.reduceAdd, Nat.reduceEqDiff, reduceIte, reduceCtorEq, Nat.reduceLeDiff, Nat.reduceLT, Nat.reduceSub, Int.reduceEq, Int.reduceLT, h0, h1, h5, rdr, hc', strAt_nat, hg]
    refine DoesK_of (hp _ _) ?_
    rintro v s' ⟨rfl, rfl⟩
    simp -dsimp -implicitDefEqProofs only [go_sem, Nat.reduceAdd, Nat.reduceEqDiff, reduceIte, reduceCtorEq, Nat.reduceLeDiff, Nat.reduceLT, Nat.reduceSub, Int.reduceEq, Int.reduceLT, h0, h1, h5, rdr, hc']
    refine CondV_split (fun hq => ?_) fun hq => ?_
    · simp -dsimp -implicitDefEqProofs only [go_sem, Nat.reduceAdd, Nat.reduceEqDiff, reduceIte, reduceCtorEq, Nat.reduceLeDiff, Nat.reduceLT, Nat.reduceSub, Int.reduceEq, Int.reduceLT, h0, h1, h5, rdr, hc', hq]
      refine Again.of (s.length - (j + 1)) (by omega) ⟨j + 1, rfl, by omega, ?_, h0, h1, h5, ?_⟩
      · rw [← ht, hd, spanN_cons, if_pos hq]; omega
      · rw [wrap_i64 (by omega) (by omega)]; rfl
    · have he : j = i + spanN p (s.drop i) := by rw [← ht, hd, spanN_cons, if_neg (by simp [hq])]; rfl
      have hij : i ≤ j := by omega
      simp -dsimp -implicitDefEqProofs only [go_sem, Nat.reduceAdd, Nat.reduceEqDiff, reduceIte, reduceCtorEq, Nat.reduceLeDiff, Nat.reduceLT, Nat.reduceSub, Int.reduceEq, Int.reduceLT, h0, h1, h5, rdr, hc', hq, hij, hj, last he]
      rw [← he]
  · have hj' : j = s.length := by simp at hc; omega
    have hc' : decide ((j : Int) < (s.length : Int)) = false := by simpa using hc
    have he : j = i + spanN p (s.drop i) := by
      rw [← ht, hj', List.drop_length]; rfl
    have hij : i ≤ j := by omega
    simp -dsimp -implicitDefEqProofs only [go_sem, Nat.reduceAdd, Nat.reduceEqDiff, reduceIte, reduceCtorEq, Nat.reduceLeDiff, Nat.reduceLT, Nat.reduceSub, Int.reduceEq, Int.reduceLT, h0, h1, h5, rdr, hc', hij, hj, last he]
    rw [← he]

end Go.Proofs.YtggdpckdlcngpaaDoor
