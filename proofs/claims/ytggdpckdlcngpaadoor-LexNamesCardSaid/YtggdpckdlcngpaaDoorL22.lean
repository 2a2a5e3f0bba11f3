/- LexTokens: the walk. -/
import Derived.Test.YtggdpckdlcngpaaDoorL21
set_option linter.unusedVariables false
set_option linter.unusedSimpArgs false
namespace Go.Proofs.YtggdpckdlcngpaaDoor
open Abs Go.RowKit

theorem same_call (l : List (Tk × Nat)) (hl : l.length < 4294967281) (o o' : Own) (st : ASt) : Does X 13 [.slice o (l.map tkV), .slice o' (l.map tkV)] st fun v s' => v = .bool true ∧ s' = st := by
  obtain ⟨h, c, d⟩ := st
  refine call_aw b13 rfl rfl rfl ?_; delta b13
  simp -dsimp -implicitDefEqProofs only [go_sem, Nat.reduceAdd, Nat.reduceEqDiff, reduceIte, reduceCtorEq, Nat.reduceLeDiff, Nat.reduceLT, Nat.reduceSub, Int.reduceEq, Int.reduceLT, List.length_map, CondV_false]
  let I : Nat → AEnv → ASt → Prop := fun m e st => ∃ j : Nat, m = l.length - j ∧ j ≤ l.length ∧ e.get 0 = .slice o (l.map tkV) ∧ e.get 1 = .slice o' (l.map tkV) ∧ e.get 5 = .int .i64 (j : Int) ∧ st = ⟨h, c, []⟩
  refine LoopK_rule I l.length ⟨0, rfl, Nat.zero_le _, rfl, rfl, rfl, rfl⟩ ?_
  rintro m e st ⟨j, rfl, hj, g0, g1, g5, rfl⟩
  simp -dsimp -implicitDefEqProofs only [go_sem, Nat.reduceAdd, Nat.reduceEqDiff, reduceIte, reduceCtorEq, Nat.reduceLeDiff, Nat.reduceLT, Nat.reduceSub, Int.reduceEq, Int.reduceLT, g0, g1, g5, List.length_map]
  refine CondV_split (fun hc => ?_) fun hc => ?_
  · have hj' : j < l.length := by simpa using hc
    have hg := List.getElem?_eq_getElem hj'
    generalize l[j] = p at hg
    obtain ⟨⟨k, t, n⟩, a⟩ := p
    simp -dsimp -implicitDefEqProofs only [go_sem, Nat.reduceAdd, Nat.reduceEqDiff, reduceIte, reduceCtorEq, Nat.reduceLeDiff, Nat.reduceLT, Nat.reduceSub, Int.reduceEq, Int.reduceLT, g0, g1, g5, List.length_map, hg, tkV, tokC, elemA, ldCells, eqKey, eqTs, eqT]
    refine Again.of (l.length - (j + 1)) (by omega) ⟨j + 1, rfl, by omega, g0, g1, ?_, rfl⟩
    show AV.int .i64 (IntKind.wrap .i64 ((j : Int) + 1)) = _
    rw [wrap_i64 (by omega) (by omega)]; rfl
  · simp -dsimp -implicitDefEqProofs only [go_sem, Nat.reduceAdd, Nat.reduceEqDiff, reduceIte, reduceCtorEq, Nat.reduceLeDiff, Nat.reduceLT, Nat.reduceSub, Int.reduceEq, Int.reduceLT]

theorem Toks_len (s : List UInt8) : (Toks s).1.length ≤ s.length + 1 := by
  have key : ∀ (f i : Nat) (acc : List (Tk × Nat)), i ≤ s.length → acc.length ≤ i → (toksP s f i acc).1.length ≤ s.length + 1 := by
    intro f
    induction f with
    | zero => intro i acc hi ha; simp [toksP]
    | succ f ih =>
      intro i acc hi ha
      have hsk := skipM_le false (s.drop i)
      rw [List.length_drop] at hsk
      have htl := tokP_len (s.drop (i + skipM false (s.drop i)))
      rw [List.length_drop] at htl
      simp only [toksP]
      split
      · simp
      · rename_i he
        obtain ⟨h1, h2, h3⟩ := htl (by simpa using he)
        split
        · simp; omega
        · rename_i hk
          have hne : s.drop (i + skipM false (s.drop i)) ≠ [] := by
            intro e0; rw [e0] at hk; simp [tokP] at hk
          have := h3 hne
          exact ih _ _ (by omega) (by simp; omega)
  rw [Toks]
  split
  · simp
  · exact key _ _ _ (Nat.zero_le _) (by simp)

theorem tokensLaw (s : List UInt8) : Does X 3 [.str s] s0 fun v _ => v = .bool true := by
  refine call_aw b3 rfl rfl rfl ?_; delta b3
  simp -dsimp -implicitDefEqProofs only [go_sem, Nat.reduceAdd, Nat.reduceEqDiff, reduceIte, reduceCtorEq, Nat.reduceLeDiff, Nat.reduceLT, Nat.reduceSub, Int.reduceEq, Int.reduceLT]
  refine DoesK_of (few_call _ _) ?_
  rintro v s' ⟨rfl, rfl⟩
  simp -dsimp -implicitDefEqProofs only [go_sem, Nat.reduceAdd, Nat.reduceEqDiff, reduceIte, reduceCtorEq, Nat.reduceLeDiff, Nat.reduceLT, Nat.reduceSub, Int.reduceEq, Int.reduceLT]
  have hl := Toks_len (s.take 300)
  have hl2 : (s.take 300).length ≤ 300 := by simp; omega
  refine DoesK_of (tokens_call _ _ _ _) ?_
  generalize hT : Toks (s.take 300) = T at hl
  rintro v s' ⟨o, rfl, h1, c1, rfl, f1⟩
  simp -dsimp -implicitDefEqProofs only [go_sem, Nat.reduceAdd, Nat.reduceEqDiff, reduceIte, reduceCtorEq, Nat.reduceLeDiff, Nat.reduceLT, Nat.reduceSub, Int.reduceEq, Int.reduceLT]
  have hr := rtokens_call (s.take 300) h1 c1 []
  rw [hT] at hr
  refine DoesK_of hr ?_
  rintro v s' ⟨o', rfl, h2, c2, rfl, f2⟩
  simp -dsimp -implicitDefEqProofs only [go_sem, Nat.reduceAdd, Nat.reduceEqDiff, reduceIte, reduceCtorEq, Nat.reduceLeDiff, Nat.reduceLT, Nat.reduceSub, Int.reduceEq, Int.reduceLT]
  refine DoesK_of (same_call T.1 (by omega) o o' _) ?_
  rintro v s' ⟨rfl, rfl⟩
  simp -dsimp -implicitDefEqProofs only [go_sem, Nat.reduceAdd, Nat.reduceEqDiff, reduceIte, reduceCtorEq, Nat.reduceLeDiff, Nat.reduceLT, Nat.reduceSub, Int.reduceEq, Int.reduceLT, CondV_true]
  refine DoesK_of (lives_call _ _ _) ?_
  rintro v s' ⟨rfl, h', c', rfl, f⟩
  simp -dsimp -implicitDefEqProofs only [go_sem, Nat.reduceAdd, Nat.reduceEqDiff, reduceIte, reduceCtorEq, Nat.reduceLeDiff, Nat.reduceLT, Nat.reduceSub, Int.reduceEq, Int.reduceLT]

end Go.Proofs.YtggdpckdlcngpaaDoor
