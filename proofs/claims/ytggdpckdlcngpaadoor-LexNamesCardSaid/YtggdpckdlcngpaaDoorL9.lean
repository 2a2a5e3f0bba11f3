/- Numbers are read. -/
import Derived.Test.YtggdpckdlcngpaaDoorL8
set_option linter.unusedVariables false
set_option linter.unusedSimpArgs false
namespace Go.Proofs.YtggdpckdlcngpaaDoor
open Abs Go.RowKit

theorem is_call (n : Int) (st : ASt) : Does X 52 [.int .i64 n] st fun v s' => v = .bool (decide (-4611686018427387904 ≤ n) && decide (n ≤ 4611686018427387903)) ∧ s' = st := by
  obtain ⟨h, c, d⟩ := st
  refine call_aw b52 rfl rfl rfl ?_; delta b52
  simp -dsimp -implicitDefEqProofs only [go_sem, Nat.reduceAdd, Nat.reduceEqDiff, reduceIte, reduceCtorEq, Nat.reduceLeDiff, Nat.reduceLT, Nat.reduceSub, Int.reduceEq, Int.reduceLT]
  refine CondV_split (fun hc => ?_) fun hc => ?_ <;> simp -dsimp -implicitDefEqProofs only [go_sem, Nat.reduceAdd, Nat.reduceEqDiff, reduceIte, reduceCtorEq, Nat.reduceLeDiff, Nat.reduceLT, Nat.reduceSub, Int.reduceEq, Int.reduceLT, hc] <;> simp_all <;> (intros; omega)

def AllDigits (s : List UInt8) : Prop := ∀ b ∈ s, 48 ≤ b.toNat ∧ b.toNat ≤ 57

theorem plain_call (S : List UInt8) (x : UInt8) (l : List UInt8) (hS : S = x :: l) (hd : AllDigits S) (h0 : x = 48 → l = []) (hs : S.length < 4294967281) (st : ASt) : Does X 51 [.str S] st fun v s' => v = .tuple [.str S, .bool false, .bool true] ∧ s' = st := by
  obtain ⟨h, c, d⟩ := st
  refine call_aw b51 rfl rfl rfl ?_; delta b51
  have hx := hd x (by rw [hS]; exact List.mem_cons_self)
  have hs0 : strAt (.int .i64 0) (.str S) = some (.int .u8 x.toNat) := by rw [hS]; rfl
  have hl1 : S.length = l.length + 1 := by rw [hS]; rfl
  have e0 : decide ((S.length : Int) > 0) = true := by simp; omega
  have eS : decide (S = []) = false := by rw [hS]; simp
  have e1 : decide ((x.toNat : Int) = 45) = false := by simp; omega
  simp -dsimp -implicitDefEqProofs only [go_sem, Nat.reduceAdd, Nat.reduceEqDiff, reduceIte, reduceCtorEq, Nat.reduceLeDiff, Nat.reduceLT, Nat.reduceSub, Int.reduceEq, Int.reduceLT, e0, hs0, e1, eS]
  refine CondV_split (fun hq => ?_) fun hq => ?_
  · have hl := h0 (byte_of hq rfl)
    have e2 : decide ((S.length : Int) > 1) = false := by rw [hl1, hl]; rfl
    simp -dsimp -implicitDefEqProofs only [go_sem, Nat.reduceAdd, Nat.reduceEqDiff, reduceIte, reduceCtorEq, Nat.reduceLeDiff, Nat.reduceLT, Nat.reduceSub, Int.reduceEq, Int.reduceLT, e0, hs0, e1, hq, e2, eS]
    let I : Nat → AEnv → ASt → Prop := fun m e st => ∃ j : Nat, m = S.length - j ∧ j ≤ S.length ∧ e.get 0 = .str S ∧ e.get 34 = .int .i64 (S.length : Int) ∧ e.get 35 = .int .i64 (j : Int) ∧ e.get 5 = .bool false ∧ st = ⟨h, c, []⟩
    refine LoopK_rule I S.length ⟨0, rfl, Nat.zero_le _, rfl, rfl, rfl, rfl, rfl⟩ ?_
    rintro m e st ⟨j, rfl, hj, g0, g34, g35, g5, rfl⟩
    simp -dsimp -implicitDefEqProofs only [go_sem, Nat.reduceAdd, Nat.reduceEqDiff, reduceIte, reduceCtorEq, Nat.reduceLeDiff, Nat.reduceLT, Nat.reduceSub, Int.reduceEq, Int.reduceLT, g0, g34, g35, g5]
    refine CondV_split (fun hc => ?_) fun hc => ?_
    · have hj' : j < S.length := by simpa using hc
      have hg := List.getElem?_eq_getElem hj'
      have hb := hd S[j] (List.getElem_mem hj')
      have f1 : decide ((S[j].toNat : Int) < 48) = false := by simp; omega
      have f2 : decide ((S[j].toNat : Int) > 57) = false := by simp; omega
      simp -dsimp -implicitDefEqProofs only [go_sem, Nat.reduceAdd, Nat.reduceEqDiff, reduceIte, reduceCtorEq, Nat.reduceLeDiff, Nat.reduceLT, Nat.reduceSub, Int.reduceEq, Int.reduceLT, g0, g34, g35, g5, strAt_nat, hg, f1, f2]
      refine Again.of (S.length - (j + 1)) (by omega) ⟨j + 1, rfl, by omega, g0, g34, ?_, g5, rfl⟩
      show AV.int .i64 (IntKind.wrap .i64 ((j : Int) + 1)) = _
      rw [wrap_i64 (by omega) (by omega)]; rfl
    · simp -dsimp -implicitDefEqProofs only [go_sem, Nat.reduceAdd, Nat.reduceEqDiff, reduceIte, reduceCtorEq, Nat.reduceLeDiff, Nat.reduceLT, Nat.reduceSub, Int.reduceEq, Int.reduceLT, g0, g34, g35, g5]
  · simp -dsimp -implicitDefEqProofs only [go_sem, Nat.reduceAdd, Nat.reduceEqDiff, reduceIte, reduceCtorEq, Nat.reduceLeDiff, Nat.reduceLT, Nat.reduceSub, Int.reduceEq, Int.reduceLT, e0, hs0, e1, hq, eS]
    let I : Nat → AEnv → ASt → Prop := fun m e st => ∃ j : Nat, m = S.length - j ∧ j ≤ S.length ∧ e.get 0 = .str S ∧ e.get 34 = .int .i64 (S.length : Int) ∧ e.get 35 = .int .i64 (j : Int) ∧ e.get 5 = .bool false ∧ st = ⟨h, c, []⟩
    refine LoopK_rule I S.length ⟨0, rfl, Nat.zero_le _, rfl, rfl, rfl, rfl, rfl⟩ ?_
    rintro m e st ⟨j, rfl, hj, g0, g34, g35, g5, rfl⟩
    simp -dsimp -implicitDefEqProofs only [go_sem, Nat.reduceAdd, Nat.reduceEqDiff, reduceIte, reduceCtorEq, Nat.reduceLeDiff, Nat.reduceLT, Nat.reduceSub, Int.reduceEq, Int.reduceLT, g0, g34, g35, g5]
    refine CondV_split (fun hc => ?_) fun hc => ?_
    · have hj' : j < S.length := by simpa using hc
      have hg := List.getElem?_eq_getElem hj'
      have hb := hd S[j] (List.getElem_mem hj')
      have f1 : decide ((S[j].toNat : Int) < 48) = false := by simp; omega
      have f2 : decide ((S[j].toNat : Int) > 57) = false := by simp; omega
      simp -dsimp -implicitDefEqProofs only [go_sem, Nat.reduceAdd, Nat.reduceEqDiff, reduceIte, reduceCtorEq, Nat.reduceLeDiff, Nat.reduceLT, Nat.reduceSub, Int.reduceEq, Int.reduceLT, g0, g34, g35, g5, strAt_nat, hg, f1, f2]
      refine Again.of (S.length - (j + 1)) (by omega) ⟨j + 1, rfl, by omega, g0, g34, ?_, g5, rfl⟩
      show AV.int .i64 (IntKind.wrap .i64 ((j : Int) + 1)) = _
      rw [wrap_i64 (by omega) (by omega)]; rfl
    · simp -dsimp -implicitDefEqProofs only [go_sem, Nat.reduceAdd, Nat.reduceEqDiff, reduceIte, reduceCtorEq, Nat.reduceLeDiff, Nat.reduceLT, Nat.reduceSub, Int.reduceEq, Int.reduceLT, g0, g34, g35, g5]

end Go.Proofs.YtggdpckdlcngpaaDoor
