/- LexLong: the walk. -/
import Derived.Test.YtggdpckdlcngpaaDoorL24
set_option linter.unusedVariables false
set_option linter.unusedSimpArgs false
namespace Go.Proofs.YtggdpckdlcngpaaDoor
open Abs Go.RowKit

theorem tokP_round (r : List UInt8) : tokP (40 :: r) = (0, ⟨5, [40], 0⟩, 1) := by
  have h1 : digitB 40 = false := rfl
  have h2 : (smallB 40 || largeB 40) = false := rfl
  have h3 : signB 40 = true := rfl
  rw [tokP, if_neg (by simp [h1]), if_neg (by decide), if_neg (by simp [h2]), if_pos h3, if_neg (by simp)]
  rfl

theorem toksP_rounds (m : Nat) : ∀ (f i : Nat) (acc : List (Tk × Nat)), m + 1 - i ≤ f → i ≤ m → (toksP (List.replicate m 40) f i acc).1.length = acc.length + (m - i) + 1 ∧ (toksP (List.replicate m 40) f i acc).2.2 = 0 := by
  intro f
  induction f with
  | zero => intro i acc hf hi; omega
  | succ f ih =>
    intro i acc hf hi
    simp only [toksP, List.drop_replicate]
    cases hk : m - i with
    | zero => simp [skipM, tokP, hk]
    | succ k =>
      have hsk : skipM false (List.replicate (k + 1) 40) = 0 := by rw [List.replicate_succ, skip_none (by decide) (by decide)]
      rw [hsk, Nat.add_zero, hk, List.replicate_succ, tokP_round]
      simp only
      rw [if_neg (by simp), if_neg (by decide)]
      obtain ⟨h1, h2⟩ := ih (i + 1) (acc ++ [((⟨5, [40], 0⟩ : Tk), i)]) (by omega) (by omega)
      refine ⟨?_, h2⟩
      rw [h1]; simp; omega

theorem Toks_rounds (m : Nat) : if 2000 < m then Toks (List.replicate m 40) = ([], 0, 12) else (Toks (List.replicate m 40)).1.length = m + 1 ∧ (Toks (List.replicate m 40)).2.2 = 0 := by
  rw [Toks, List.length_replicate]
  split
  · rfl
  · have := toksP_rounds m (m + 1) 0 [] (by omega) (Nat.zero_le _)
    simpa using this

set_option maxHeartbeats 2000000 in
theorem longLaw (n : Int) (hn : -9223372036854775808 ≤ n ∧ n ≤ 9223372036854775807) : Does X 7 [.int .i64 n] s0 fun v _ => v = .bool true := by
  refine call_aw b7 rfl rfl rfl ?_; delta b7
  have body : ∀ (N : Nat) (e : AEnv), N ≤ 9223372036854775807 → True := fun _ _ _ => trivial
  obtain ⟨N, hN, hNn⟩ : ∃ N : Nat, (N : Int) ≤ 9223372036854775807 ∧ (if decide (n < 0) = true then IntKind.wrap .i64 (0 - IntKind.wrap .i64 (n + 1)) else n) = (N : Int) := by
    by_cases h0 : n < 0
    · rw [if_pos (by simpa using h0), wrap_i64 (n := n + 1) (by omega) (by omega), wrap_i64 (by omega) (by omega)]
      exact ⟨(0 - (n + 1)).toNat, by omega, by omega⟩
    · rw [if_neg (by simpa using h0)]
      exact ⟨n.toNat, by omega, by omega⟩
  have hmod : ((N : Int)).tmod 2101 = ((N % 2101 : Nat) : Int) := by
    rw [show (2101 : Int) = ((2101 : Nat) : Int) from rfl, ← Int.ofNat_tmod]
  generalize hm : N % 2101 = m at hmod
  have hm2 : m < 2101 := by omega
  simp -dsimp -implicitDefEqProofs only [go_sem, Nat.reduceAdd, Nat.reduceEqDiff, reduceIte, reduceCtorEq, Nat.reduceLeDiff, Nat.reduceLT, Nat.reduceSub, Int.reduceEq, Int.reduceLT]
  cases h0 : decide (n < 0)
  all_goals
    rw [h0] at hNn
    simp only [Bool.false_eq_true, if_false, if_true] at hNn
    simp -dsimp -implicitDefEqProofs only [go_sem, Nat.reduceAdd, Nat.reduceEqDiff, reduceIte, reduceCtorEq, Nat.reduceLeDiff, Nat.reduceLT, Nat.reduceSub, Int.reduceEq, Int.reduceLT, h0, CondV_true, CondV_false, hNn, hmod]
    let I : Nat → AEnv → ASt → Prop := fun q e st => ∃ (j : Nat) (i : Option Nat) (H : Hp) (C : Nat), q = m - j ∧ j ≤ m ∧ OwnH H 1 i ((List.replicate j (40 : UInt8)).map byteV) ∧ e.get 0 = .int .i64 (m : Int) ∧ e.get 3 = ownV i ((List.replicate j (40 : UInt8)).map byteV) ∧ e.get 4 = .int .i64 (j : Int) ∧ st = ⟨H, C, []⟩
    refine LoopK_rule I m ⟨0, none, _, _, rfl, Nat.zero_le _, rfl, rfl, rfl, rfl, rfl⟩ ?_
    rintro q e st ⟨j, i, H, C, rfl, hj, how, g0, g3, g4, rfl⟩
    simp -dsimp -implicitDefEqProofs only [go_sem, Nat.reduceAdd, Nat.reduceEqDiff, reduceIte, reduceCtorEq, Nat.reduceLeDiff, Nat.reduceLT, Nat.reduceSub, Int.reduceEq, Int.reduceLT, g0, g4]
    refine CondV_split (fun hc => ?_) fun hc => ?_
    · have hj' : j < m := by simpa using hc
      have happ : appK C 0 1 1 ⟨H, C + 1, []⟩ (ownV i ((List.replicate j (40 : UInt8)).map byteV)) (.slice .full [.int .u8 40]) = some (ownV (some (i.getD C)) ((List.replicate (j + 1) (40 : UInt8)).map byteV), ⟨upd H (i.getD C) (.arr (j + 1) 1), C + 1, []⟩) := by
        have := @appK_one C 0 1 1 H (C + 1) [] i ((List.replicate j (40 : UInt8)).map byteV) (byteV 40) .full how rfl (by simp; omega)
        simp only [List.length_map, Nat.add_zero, List.length_replicate] at this
        rw [List.replicate_succ', List.map_append]
        exact this
      simp -dsimp -implicitDefEqProofs only [go_sem, Nat.reduceAdd, Nat.reduceEqDiff, reduceIte, reduceCtorEq, Nat.reduceLeDiff, Nat.reduceLT, Nat.reduceSub, Int.reduceEq, Int.reduceLT, g3, g4, partsV, happ]
      refine Again.of (m - (j + 1)) (by omega) ⟨j + 1, some (i.getD C), _, _, rfl, hj', ?_, g0, rfl, ?_, rfl⟩
      · simp [OwnH, upd_same]
      · show AV.int .i64 (IntKind.wrap .i64 ((j : Int) + 1)) = _
        rw [wrap_i64 (by omega) (by omega)]; rfl
    · obtain rfl : j = m := by simp at hc; omega
      have hr := Toks_rounds j
      simp -dsimp -implicitDefEqProofs only [go_sem, Nat.reduceAdd, Nat.reduceEqDiff, reduceIte, reduceCtorEq, Nat.reduceLeDiff, Nat.reduceLT, Nat.reduceSub, Int.reduceEq, Int.reduceLT, g3, str_own i _ how]
      refine DoesK_of (tokens_call _ _ _ _) ?_
      generalize hT : Toks (List.replicate j 40) = T at hr
      obtain ⟨tl, ta, te⟩ := T
      rintro v s' ⟨o, rfl, h1, c1, rfl, f1⟩
      simp only at hr
      by_cases hj2 : 2000 < j
      · rw [if_pos hj2] at hr
        injection hr with e1 e2; injection e2 with e2 e3
        subst e1; subst e2; subst e3
        have hd : decide ((j : Int) > 2000) = true := by simp; omega
        simp -dsimp -implicitDefEqProofs only [go_sem, Nat.reduceAdd, Nat.reduceEqDiff, reduceIte, reduceCtorEq, Nat.reduceLeDiff, Nat.reduceLT, Nat.reduceSub, Int.reduceEq, Int.reduceLT, g0, hd, CondV_true, Int.cast_ofNat_Int]
        refine DoesK_of (lives_call _ _ _) ?_
        rintro v s' ⟨rfl, h', c', rfl, f⟩
        simp -dsimp -implicitDefEqProofs only [go_sem, Nat.reduceAdd, Nat.reduceEqDiff, reduceIte, reduceCtorEq, Nat.reduceLeDiff, Nat.reduceLT, Nat.reduceSub, Int.reduceEq, Int.reduceLT]
      · rw [if_neg hj2] at hr
        obtain ⟨e1, rfl⟩ := hr
        have hd : decide ((j : Int) > 2000) = false := by simp; omega
        have w1 : IntKind.wrap .i64 ((j : Int) + 1) = ((j + 1 : Nat) : Int) := by rw [wrap_i64 (by omega) (by omega)]; omega
        simp -dsimp -implicitDefEqProofs only [go_sem, Nat.reduceAdd, Nat.reduceEqDiff, reduceIte, reduceCtorEq, Nat.reduceLeDiff, Nat.reduceLT, Nat.reduceSub, Int.reduceEq, Int.reduceLT, g0, hd, CondV_true, CondV_false, List.length_map, e1, w1]
        refine DoesK_of (lives_call _ _ _) ?_
        rintro v s' ⟨rfl, h', c', rfl, f⟩
        simp -dsimp -implicitDefEqProofs only [go_sem, Nat.reduceAdd, Nat.reduceEqDiff, reduceIte, reduceCtorEq, Nat.reduceLeDiff, Nat.reduceLT, Nat.reduceSub, Int.reduceEq, Int.reduceLT]

end Go.Proofs.YtggdpckdlcngpaaDoor
