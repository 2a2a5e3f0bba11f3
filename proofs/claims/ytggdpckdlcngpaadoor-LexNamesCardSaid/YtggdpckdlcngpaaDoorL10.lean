/- Numbers are read. -/
import Derived.Test.YtggdpckdlcngpaaDoorL9
set_option linter.unusedVariables false
set_option linter.unusedSimpArgs false
namespace Go.Proofs.YtggdpckdlcngpaaDoor
open Abs Go.RowKit

def decV : Nat → List UInt8 → Nat
  | v, [] => v
  | v, b :: l => decV (10 * v + (b.toNat - 48)) l

theorem wrap_u8 {n : Int} (h : 0 ≤ n) (h' : n ≤ 255) : IntKind.wrap .u8 n = n := by
  simp only [IntKind.wrap, IntKind.signed, IntKind.bits]
  first
    | (split <;> omega)
    | (simp; omega)
    | omega

theorem decV_ge : ∀ (l : List UInt8) (v : Nat), v ≤ decV v l
  | [], v => Nat.le_refl _
  | b :: l, v => Nat.le_trans (by omega) (decV_ge l (10 * v + (b.toNat - 48)))

/-- What Read answers. -/
def readV (v : Nat) : AV := if v ≤ 4611686018427387903 then .tuple [.int .i64 (v : Int), .int .i64 0] else .tuple [.int .i64 0, .int .i64 13]

theorem read_call (S : List UInt8) (x : UInt8) (l : List UInt8) (hS : S = x :: l) (hd : AllDigits S) (h0 : x = 48 → l = []) (hs : S.length < 4294967281) (st : ASt) : Does X 40 [.str S] st fun v s' => v = readV (decV 0 S) ∧ s' = st := by
  obtain ⟨h, c, d⟩ := st
  refine call_aw b40 rfl rfl rfl ?_; delta b40
  simp -dsimp -implicitDefEqProofs only [go_sem, Nat.reduceAdd, Nat.reduceEqDiff, reduceIte, reduceCtorEq, Nat.reduceLeDiff, Nat.reduceLT, Nat.reduceSub, Int.reduceEq, Int.reduceLT]
  refine DoesK_of (plain_call S x l hS hd h0 hs _) ?_
  rintro v s' ⟨rfl, rfl⟩
  simp -dsimp -implicitDefEqProofs only [go_sem, Nat.reduceAdd, Nat.reduceEqDiff, reduceIte, reduceCtorEq, Nat.reduceLeDiff, Nat.reduceLT, Nat.reduceSub, Int.reduceEq, Int.reduceLT]
  let I : Nat → AEnv → ASt → Prop := fun m e st => ∃ (j v : Nat), m = S.length - j ∧ j ≤ S.length ∧ v ≤ 4611686018427387904 ∧ decV v (S.drop j) = decV 0 S ∧ e.get 4 = .str S ∧ e.get 19 = .int .i64 (S.length : Int) ∧ e.get 20 = .int .i64 (j : Int) ∧ e.get 7 = .int .i64 (-(v : Int)) ∧ e.get 5 = .bool false ∧ st = ⟨h, c, []⟩
  refine LoopK_rule I S.length ⟨0, 0, rfl, Nat.zero_le _, Nat.zero_le _, rfl, rfl, rfl, rfl, rfl, rfl, rfl⟩ ?_
  rintro m e st ⟨j, v, rfl, hj, hv, hval, g4, g19, g20, g7, g5, rfl⟩
  simp -dsimp -implicitDefEqProofs only [go_sem, Nat.reduceAdd, Nat.reduceEqDiff, reduceIte, reduceCtorEq, Nat.reduceLeDiff, Nat.reduceLT, Nat.reduceSub, Int.reduceEq, Int.reduceLT, g4, g19, g20, g7, g5]
  refine CondV_split (fun hc => ?_) fun hc => ?_
  · have hj' : j < S.length := by simpa using hc
    have hg := List.getElem?_eq_getElem hj'
    have hdr : S.drop j = S[j] :: S.drop (j + 1) := List.drop_eq_getElem_cons hj'
    have hb := hd S[j] (List.getElem_mem hj')
    have hval2 : decV (10 * v + (S[j].toNat - 48)) (S.drop (j + 1)) = decV 0 S := by rw [← hval, hdr]; rfl
    have hk : ∃ k : Nat, k = S[j].toNat - 48 ∧ k ≤ 9 := ⟨_, rfl, by omega⟩
    obtain ⟨k, hk, hk9⟩ := hk
    rw [← hk] at hval2
    have w1 : IntKind.wrap .u8 ((S[j].toNat : Int) - 48) = (k : Int) := by rw [wrap_u8 (by omega) (by omega)]; omega
    have w2 : IntKind.wrap .i64 (k : Int) = (k : Int) := wrap_i64 (by omega) (by omega)
    have w3 : IntKind.wrap .i64 (-4611686018427387904 + (k : Int)) = -4611686018427387904 + (k : Int) := wrap_i64 (by omega) (by omega)
    have w4 : IntKind.wrap .i64 ((-4611686018427387904 + (k : Int)).tdiv 10) = -((4611686018427387904 - k) / 10 : Nat) := by
      have : (-4611686018427387904 + (k : Int)).tdiv 10 = -((4611686018427387904 - k) / 10 : Nat) := by
        rw [show (-4611686018427387904 + (k : Int)) = -((4611686018427387904 - k : Nat) : Int) by omega, Int.neg_tdiv]
        rw [show (10 : Int) = ((10 : Nat) : Int) from rfl, ← Int.ofNat_tdiv]
      rw [this, wrap_i64 (by omega) (by omega)]
    simp -dsimp -implicitDefEqProofs only [go_sem, Nat.reduceAdd, Nat.reduceEqDiff, reduceIte, reduceCtorEq, Nat.reduceLeDiff, Nat.reduceLT, Nat.reduceSub, Int.reduceEq, Int.reduceLT, g4, g19, g20, g7, g5, strAt_nat, hg, w1, w2, w3, w4]
    refine CondV_split (fun hq => ?_) fun hq => ?_
    · have hq' : (4611686018427387904 - k) / 10 < v := by have := hq; simp only [decide_eq_true_eq, decide_eq_false_iff_not] at this; omega
      simp -dsimp -implicitDefEqProofs only [go_sem, Nat.reduceAdd, Nat.reduceEqDiff, reduceIte, reduceCtorEq, Nat.reduceLeDiff, Nat.reduceLT, Nat.reduceSub, Int.reduceEq, Int.reduceLT, g4, g19, g20, g7, g5]
      have hbig : ¬ decV 0 S ≤ 4611686018427387903 := by
        have := decV_ge (S.drop (j + 1)) (10 * v + k)
        rw [hval2] at this
        omega
      simp [readV, hbig]
    · have hq' : ¬ (4611686018427387904 - k) / 10 < v := by have := hq; simp only [decide_eq_true_eq, decide_eq_false_iff_not] at this; omega
      have w5 : IntKind.wrap .i64 (10 * -(v : Int)) = -((10 * v : Nat) : Int) := by rw [wrap_i64 (by omega) (by omega)]; omega
      have w6 : IntKind.wrap .i64 (-((10 * v : Nat) : Int) - (k : Int)) = -((10 * v + k : Nat) : Int) := by rw [wrap_i64 (by omega) (by omega)]; omega
      simp -dsimp -implicitDefEqProofs only [go_sem, Nat.reduceAdd, Nat.reduceEqDiff, reduceIte, reduceCtorEq, Nat.reduceLeDiff, Nat.reduceLT, Nat.reduceSub, Int.reduceEq, Int.reduceLT, g4, g19, g20, g7, g5, w5, w6]
      refine Again.of (S.length - (j + 1)) (by omega) ⟨j + 1, 10 * v + k, rfl, by omega, by omega, hval2, g4, g19, ?_, rfl, g5, rfl⟩
      show AV.int .i64 (IntKind.wrap .i64 ((j : Int) + 1)) = _
      rw [wrap_i64 (by omega) (by omega)]; rfl
  · obtain rfl : j = S.length := by simp at hc; omega
    have hv2 : v = decV 0 S := by rw [← hval, List.drop_length]; rfl
    have w7 : IntKind.wrap .i64 (0 - -(v : Int)) = (v : Int) := by rw [wrap_i64 (by omega) (by omega)]; omega
    simp -dsimp -implicitDefEqProofs only [go_sem, Nat.reduceAdd, Nat.reduceEqDiff, reduceIte, reduceCtorEq, Nat.reduceLeDiff, Nat.reduceLT, Nat.reduceSub, Int.reduceEq, Int.reduceLT, g4, g19, g20, g7, g5, w7]
    refine DoesK_of (is_call _ _) ?_
    rintro r s' ⟨rfl, rfl⟩
    simp -dsimp -implicitDefEqProofs only [go_sem, Nat.reduceAdd, Nat.reduceEqDiff, reduceIte, reduceCtorEq, Nat.reduceLeDiff, Nat.reduceLT, Nat.reduceSub, Int.reduceEq, Int.reduceLT, g4, g19, g20, g7, g5, w7]
    refine CondV_split (fun hq => ?_) fun hq => ?_
    · simp -dsimp -implicitDefEqProofs only [go_sem, Nat.reduceAdd, Nat.reduceEqDiff, reduceIte, reduceCtorEq, Nat.reduceLeDiff, Nat.reduceLT, Nat.reduceSub, Int.reduceEq, Int.reduceLT, g7]
      simp at hq
      have : ¬ decV 0 S ≤ 4611686018427387903 := by omega
      simp [readV, this]
    · simp -dsimp -implicitDefEqProofs only [go_sem, Nat.reduceAdd, Nat.reduceEqDiff, reduceIte, reduceCtorEq, Nat.reduceLeDiff, Nat.reduceLT, Nat.reduceSub, Int.reduceEq, Int.reduceLT, g7]
      simp at hq
      have : decV 0 S ≤ 4611686018427387903 := by omega
      simp [readV, this, hv2]

end Go.Proofs.YtggdpckdlcngpaaDoor
