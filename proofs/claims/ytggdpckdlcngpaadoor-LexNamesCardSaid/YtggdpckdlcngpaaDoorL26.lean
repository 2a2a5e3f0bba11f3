/- LexNames: the walk. -/
import Derived.Test.YtggdpckdlcngpaaDoorL25
set_option linter.unusedVariables false
set_option linter.unusedSimpArgs false
namespace Go.Proofs.YtggdpckdlcngpaaDoor
open Abs Go.RowKit

def allB : List UInt8 := [97, 98, 99, 100, 101, 102, 103, 104, 105, 106, 107, 108, 109, 110, 111, 112, 113, 114, 115, 116, 117, 118, 119, 120, 121, 122, 65, 66, 67, 68, 69, 70, 71, 72, 73, 74, 75, 76, 77, 78, 79, 80, 81, 82, 83, 84, 85, 86, 87, 88, 89, 90, 48, 49, 50, 51, 52, 53, 54, 55, 56, 57, 95]

def wordK (j : Nat) (b : UInt8) : Nat := if j = 0 then b.toNat % 52 else b.toNat % 63
def wordB (j : Nat) (b : UInt8) : UInt8 := allB.getD (wordK j b) 0
def wordF : Nat → List UInt8 → List UInt8
  | _, [] => []
  | j, b :: l => wordB j b :: wordF (j + 1) l

theorem wordF_snoc : ∀ (l : List UInt8) (i : Nat) (b : UInt8), wordF i (l ++ [b]) = wordF i l ++ [wordB (i + l.length) b]
  | [], i, b => rfl
  | c :: l, i, b => by
    rw [List.cons_append, wordF, wordF_snoc l, wordF, List.cons_append, List.length_cons, show i + 1 + l.length = i + (l.length + 1) by omega]
theorem wordF_len : ∀ (l : List UInt8) (i : Nat), (wordF i l).length = l.length
  | [], i => rfl
  | c :: l, i => by rw [wordF, List.length_cons, wordF_len l, List.length_cons]

theorem all_inner : ((List.range 63).all fun n => innerB (allB.getD n 0)) = true := by kernel_rfl
theorem all_letter : ((List.range 52).all fun n => (smallB (allB.getD n 0) || largeB (allB.getD n 0)) && !digitB (allB.getD n 0) && !(allB.getD n 0 == 34) && !(allB.getD n 0 == 32) && !(allB.getD n 0 == 9) && !(allB.getD n 0 == 10) && !(allB.getD n 0 == 35) && (largeB (allB.getD n 0) == decide ((allB.getD n 0).toNat < 97))) = true := by kernel_rfl

theorem wordK_lt (j : Nat) (b : UInt8) : wordK j b < 63 := by unfold wordK; split <;> omega
theorem wordB_inner (j : Nat) (b : UInt8) : innerB (wordB j b) = true := List.all_eq_true.1 all_inner _ (List.mem_range.2 (wordK_lt j b))
theorem wordF_inner : ∀ (l : List UInt8) (i : Nat), ∀ b ∈ wordF i l, innerB b = true
  | [], i, b, h => by simp [wordF] at h
  | c :: l, i, b, h => by
    rw [wordF] at h
    rcases List.mem_cons.1 h with rfl | h
    · exact wordB_inner _ _
    · exact wordF_inner l _ b h

theorem takeWhile_all {p : UInt8 → Bool} : ∀ {l : List UInt8}, (∀ b ∈ l, p b = true) → l.takeWhile p = l
  | [], _ => rfl
  | b :: l, h => by rw [List.takeWhile_cons, if_pos (h b List.mem_cons_self), takeWhile_all fun c hc => h c (List.mem_cons_of_mem _ hc)]

/-- What a name is as tokens. -/
theorem Toks_word (b : UInt8) (l : List UInt8) (hl : l.length < 20) : ∃ (x : UInt8) (r : List UInt8), wordF 0 (b :: l) = x :: r ∧ r.length = l.length ∧ largeB x = decide (x.toNat < 97) ∧
    Toks (x :: r) = if 16 < r.length + 1 then ([], 0, 12) else ([(⟨nameKind (x :: r), x :: r, 0⟩, 0), (⟨0, [], 0⟩, r.length + 1)], 0, 0) := by
  have hx := List.all_eq_true.1 all_letter (b.toNat % 52) (List.mem_range.2 (Nat.mod_lt _ (by decide)))
  have hxe : allB.getD (b.toNat % 52) 0 = wordB 0 b := rfl
  rw [hxe] at hx
  have hin : ∀ c ∈ wordF 0 (b :: l), innerB c = true := wordF_inner _ _
  have hlen := wordF_len (b :: l) 0
  rw [wordF] at hin hlen
  refine ⟨wordB 0 b, wordF 1 l, rfl, by simpa using hlen, ?_⟩
  have hr : (wordF 1 l).length = l.length := by simpa using hlen
  generalize wordB 0 b = x at *
  generalize wordF 1 l = r at *
  simp only [Bool.and_eq_true, Bool.not_eq_true', beq_eq_false_iff_ne, beq_iff_eq] at hx
  obtain ⟨⟨⟨⟨⟨⟨⟨h1, h2⟩, h3⟩, h4⟩, h5⟩, h6⟩, h7⟩, h8⟩ := hx
  refine ⟨h8, ?_⟩
  have hsk : skipM false (x :: r) = 0 := skip_none (by simp [h4, h5, h6]) h7 r
  have htw : (x :: r).takeWhile innerB = x :: r := takeWhile_all hin
  have htok : tokP (x :: r) = if 16 < r.length + 1 then (12, ⟨0, [], 0⟩, 0) else (0, ⟨nameKind (x :: r), x :: r, 0⟩, r.length + 1) := by
    rw [tokP, if_neg (by simp [h2]), if_neg h3, if_pos h1, htw]; rfl
  have hk : nameKind (x :: r) ≠ 0 := by simp only [nameKind]; split <;> (try split) <;> decide
  rw [Toks, if_neg (by simp; omega), List.length_cons, toksP, List.drop_zero, hsk, Nat.add_zero, List.drop_zero, htok]
  by_cases h16 : 16 < r.length + 1
  · rw [if_pos h16]; simp [h16]
  · rw [if_neg h16]
    simp only [ne_eq, not_true_eq_false, if_false, hk, h16, Nat.zero_add, List.nil_append]
    rw [toksP]
    have hd : (x :: r).drop (r.length + 1) = [] := by rw [List.drop_eq_nil_iff]; simp
    simp [hd, skipM, tokP]

set_option maxHeartbeats 4000000 in
theorem namesLaw (s : List UInt8) : Does X 8 [.str s] s0 fun v _ => v = .bool true := by
  refine call_aw b8 rfl rfl rfl ?_; delta b8
  obtain ⟨S, hS, hS20⟩ : ∃ S, S = (if decide ((s.length : Int) > 20) = true then s.take 20 else s) ∧ S.length ≤ 20 := by
    refine ⟨_, rfl, ?_⟩
    split
    · simp; omega
    · rename_i h; simp at h; omega
  simp -dsimp -implicitDefEqProofs only [go_sem, Nat.reduceAdd, Nat.reduceEqDiff, reduceIte, reduceCtorEq, Nat.reduceLeDiff, Nat.reduceLT, Nat.reduceSub, Int.reduceEq, Int.reduceLT]
  cases h20 : decide ((s.length : Int) > 20)
  all_goals
    rw [h20] at hS
    simp only [Bool.false_eq_true, if_false, if_true] at hS
  rotate_left
  have hcut : cutStr none (some (.int .i64 20)) (.str s) = some (.str S) := by
    have := cut_hi .i64 20 s
    rw [if_pos (by simp at h20; omega)] at this
    rw [hS]; exact this
  simp -dsimp -implicitDefEqProofs only [go_sem, Nat.reduceAdd, Nat.reduceEqDiff, reduceIte, reduceCtorEq, Nat.reduceLeDiff, Nat.reduceLT, Nat.reduceSub, Int.reduceEq, Int.reduceLT, CondV_true, hcut]
  rotate_left
  simp -dsimp -implicitDefEqProofs only [go_sem, Nat.reduceAdd, Nat.reduceEqDiff, reduceIte, reduceCtorEq, Nat.reduceLeDiff, Nat.reduceLT, Nat.reduceSub, Int.reduceEq, Int.reduceLT, CondV_false]
  rw [← hS]
  all_goals
    let I : Nat → AEnv → ASt → Prop := fun q e st => ∃ (j : Nat) (i : Option Nat) (H : Hp) (C : Nat), q = S.length - j ∧ j ≤ S.length ∧ OwnH H 1 i ((wordF 0 (S.take j)).map byteV) ∧ e.get 0 = .str S ∧ e.get 3 = .str allB ∧ e.get 4 = ownV i ((wordF 0 (S.take j)).map byteV) ∧ e.get 5 = .int .i64 (j : Int) ∧ st = ⟨H, C, []⟩
    refine LoopK_rule I S.length ⟨0, none, _, _, rfl, Nat.zero_le _, rfl, rfl, rfl, rfl, rfl, rfl⟩ ?_
    rintro q e st ⟨j, i, H, C, rfl, hj, how, g0, g3, g4, g5, rfl⟩
    simp -dsimp -implicitDefEqProofs only [go_sem, Nat.reduceAdd, Nat.reduceEqDiff, reduceIte, reduceCtorEq, Nat.reduceLeDiff, Nat.reduceLT, Nat.reduceSub, Int.reduceEq, Int.reduceLT, g0, g5]
    refine CondV_split (fun hc => ?_) fun hc => ?_
    · have hj' : j < S.length := by simpa using hc
      have hg := List.getElem?_eq_getElem hj'
      have htk : S.take (j + 1) = S.take j ++ [S[j]] := by rw [List.take_succ_eq_append_getElem hj']
      generalize S[j] = y at hg htk
      have hw : wordF 0 (S.take (j + 1)) = wordF 0 (S.take j) ++ [wordB j y] := by
        rw [htk, wordF_snoc, List.length_take, Nat.min_eq_left hj, Nat.zero_add]
      have hwl : (wordF 0 (S.take j)).length = j := by rw [wordF_len, List.length_take, Nat.min_eq_left hj]
      have hy := UInt8.toNat_lt y
      have w1 : IntKind.wrap .i64 (y.toNat : Int) = (y.toNat : Int) := wrap_i64 (by omega) (by omega)
      have m1 : ((y.toNat : Int)).tmod 63 = ((y.toNat % 63 : Nat) : Int) := by rw [show (63 : Int) = ((63 : Nat) : Int) from rfl, ← Int.ofNat_tmod]
      have m2 : ((y.toNat : Int)).tmod 52 = ((y.toNat % 52 : Nat) : Int) := by rw [show (52 : Int) = ((52 : Nat) : Int) from rfl, ← Int.ofNat_tmod]
      have hat : allB[wordK j y]? = some (wordB j y) := by
        have h63 : wordK j y < allB.length := wordK_lt j y
        rw [wordB, List.getD_eq_getElem?_getD, List.getElem?_eq_getElem h63]; rfl
      have happ : appK C 0 1 1 ⟨H, C + 1, []⟩ (ownV i ((wordF 0 (S.take j)).map byteV)) (.slice .full [.int .u8 (wordB j y).toNat]) = some (ownV (some (i.getD C)) ((wordF 0 (S.take (j + 1))).map byteV), ⟨upd H (i.getD C) (.arr (j + 1) 1), C + 1, []⟩) := by
        have := @appK_one C 0 1 1 H (C + 1) [] i ((wordF 0 (S.take j)).map byteV) (byteV (wordB j y)) .full how rfl (by simp; omega)
        simp only [List.length_map, Nat.add_zero, hwl] at this
        rw [hw, List.map_append]
        exact this
      have again : ∀ e' : AEnv, e'.get 0 = .str S → e'.get 3 = .str allB → e'.get 4 = ownV (some (i.getD C)) ((wordF 0 (S.take (j + 1))).map byteV) → e'.get 5 = .int .i64 (IntKind.wrap .i64 ((j : Int) + 1)) → Again I .mk (S.length - j) e' ⟨upd H (i.getD C) (.arr (j + 1) 1), C + 1, []⟩ := by
        intro e' a0 a3 a4 a5
        refine Again.of (S.length - (j + 1)) (by omega) ⟨j + 1, some (i.getD C), _, _, rfl, hj', ?_, a0, a3, a4, ?_, rfl⟩
        · have hwl1 : (wordF 0 (S.take (j + 1))).length = j + 1 := by rw [wordF_len, List.length_take, Nat.min_eq_left hj']
          simp only [OwnH, upd_same, List.length_map, hwl1]
        · rw [a5, wrap_i64 (by omega) (by omega)]; rfl
      by_cases hj0 : j = 0
      · have hd : decide ((j : Int) = 0) = true := by simp; omega
        have hk : wordK j y = y.toNat % 52 := by rw [wordK, if_pos hj0]
        rw [hk] at hat
        simp -dsimp -implicitDefEqProofs only [go_sem, Nat.reduceAdd, Nat.reduceEqDiff, reduceIte, reduceCtorEq, Nat.reduceLeDiff, Nat.reduceLT, Nat.reduceSub, Int.reduceEq, Int.reduceLT, g0, g3, g4, g5, strAt_nat, hg, w1, m1, m2, hd, CondV_true, hat, partsV, happ]
        exact again _ g0 g3 rfl rfl
      · have hd : decide ((j : Int) = 0) = false := by simp; omega
        have hk : wordK j y = y.toNat % 63 := by rw [wordK, if_neg hj0]
        rw [hk] at hat
        simp -dsimp -implicitDefEqProofs only [go_sem, Nat.reduceAdd, Nat.reduceEqDiff, reduceIte, reduceCtorEq, Nat.reduceLeDiff, Nat.reduceLT, Nat.reduceSub, Int.reduceEq, Int.reduceLT, g0, g3, g4, g5, strAt_nat, hg, w1, m1, m2, hd, CondV_false, hat, partsV, happ]
        exact again _ g0 g3 rfl rfl
    · obtain rfl : j = S.length := by simp at hc; omega
      rw [List.take_length] at how g4
      simp -dsimp -implicitDefEqProofs only [go_sem, Nat.reduceAdd, Nat.reduceEqDiff, reduceIte, reduceCtorEq, Nat.reduceLeDiff, Nat.reduceLT, Nat.reduceSub, Int.reduceEq, Int.reduceLT, g4, str_own i _ how]
      clear_value I
      cases hSc : S with
      | nil =>
        have hT : Toks (wordF 0 []) = ([(⟨0, [], 0⟩, 0)], 0, 0) := rfl
        refine DoesK_of (tokens_is hT _ _ _) ?_
        rintro v s' ⟨o, rfl, h1, c1, rfl, f1⟩
        have z16 : decide ((0 : Int) > 16) = false := rfl
        simp -dsimp -implicitDefEqProofs only [go_sem, Nat.reduceAdd, Nat.reduceEqDiff, reduceIte, reduceCtorEq, Nat.reduceLeDiff, Nat.reduceLT, Nat.reduceSub, Int.reduceEq, Int.reduceLT, show (wordF 0 []).length = 0 from rfl, Int.cast_ofNat_Int, CondV_true, CondV_false, z16]
        refine DoesK_of (lives_call _ _ _) ?_
        rintro v s' ⟨rfl, h', c', rfl, f⟩
        simp -dsimp -implicitDefEqProofs only [go_sem, Nat.reduceAdd, Nat.reduceEqDiff, reduceIte, reduceCtorEq, Nat.reduceLeDiff, Nat.reduceLT, Nat.reduceSub, Int.reduceEq, Int.reduceLT]
      | cons b l =>
        have hl20 : l.length < 20 := by rw [hSc] at hS20; simp at hS20; omega
        obtain ⟨x, r, hxr, hrl, hlg, hT⟩ := Toks_word b l hl20
        rw [hxr]
        have hs0 : strAt (.int .i64 0) (.str (x :: r)) = some (.int .u8 x.toNat) := rfl
        by_cases h16 : 16 < r.length + 1
        · rw [if_pos h16] at hT
          have hd : decide (((r.length + 1 : Nat) : Int) > 16) = true := by simp; omega
          refine DoesK_of (tokens_is hT _ _ _) ?_
          rintro v s' ⟨o, rfl, h1, c1, rfl, f1⟩
          simp -dsimp -implicitDefEqProofs only [go_sem, Nat.reduceAdd, Nat.reduceEqDiff, reduceIte, reduceCtorEq, Nat.reduceLeDiff, Nat.reduceLT, Nat.reduceSub, Int.reduceEq, Int.reduceLT, hd, Int.cast_ofNat_Int, CondV_true]
          refine DoesK_of (lives_call _ _ _) ?_
          rintro v s' ⟨rfl, h', c', rfl, f⟩
          simp -dsimp -implicitDefEqProofs only [go_sem, Nat.reduceAdd, Nat.reduceEqDiff, reduceIte, reduceCtorEq, Nat.reduceLeDiff, Nat.reduceLT, Nat.reduceSub, Int.reduceEq, Int.reduceLT]
        · rw [if_neg h16] at hT
          have hd : decide (((r.length + 1 : Nat) : Int) > 16) = false := by simp; omega
          have hd0 : decide (((r.length + 1 : Nat) : Int) = 0) = false := by simp; omega
          have hlt : decide ((x.toNat : Int) < 97) = largeB x := by rw [hlg, decide_eq_decide]; omega
          refine DoesK_of (tokens_is hT _ _ _) ?_
          rintro v s' ⟨o, rfl, h1, c1, rfl, f1⟩
          simp -dsimp -implicitDefEqProofs only [go_sem, Nat.reduceAdd, Nat.reduceEqDiff, reduceIte, reduceCtorEq, Nat.reduceLeDiff, Nat.reduceLT, Nat.reduceSub, Int.reduceEq, Int.reduceLT, hd, hd0, Int.cast_ofNat_Int, CondV_false, tkV, tokC, elemA, idx_slice_0, idx_slice_1, hs0, hlt]
          have hnk : nameKind (x :: r) = if largeB x = true then 4 else if keyP (x :: r) = true then 6 else 3 := rfl
          refine CondV_split (fun hq => ?_) fun hq => ?_
          · rw [if_pos hq] at hnk
            simp -dsimp -implicitDefEqProofs only [go_sem, Nat.reduceAdd, Nat.reduceEqDiff, reduceIte, reduceCtorEq, Nat.reduceLeDiff, Nat.reduceLT, Nat.reduceSub, Int.reduceEq, Int.reduceLT, hnk, CondV_true, elemA, idx_slice_0]
            refine DoesK_of (lives_call _ _ _) ?_
            rintro v s' ⟨rfl, h', c', rfl, f⟩
            simp -dsimp -implicitDefEqProofs only [go_sem, Nat.reduceAdd, Nat.reduceEqDiff, reduceIte, reduceCtorEq, Nat.reduceLeDiff, Nat.reduceLT, Nat.reduceSub, Int.reduceEq, Int.reduceLT]
          · rw [if_neg (by simp [hq])] at hnk
            simp -dsimp -implicitDefEqProofs only [go_sem, Nat.reduceAdd, Nat.reduceEqDiff, reduceIte, reduceCtorEq, Nat.reduceLeDiff, Nat.reduceLT, Nat.reduceSub, Int.reduceEq, Int.reduceLT]
            refine DoesK_of (key_call _ (by simp; omega) _) ?_
            rintro v s' ⟨rfl, rfl⟩
            simp -dsimp -implicitDefEqProofs only [go_sem, Nat.reduceAdd, Nat.reduceEqDiff, reduceIte, reduceCtorEq, Nat.reduceLeDiff, Nat.reduceLT, Nat.reduceSub, Int.reduceEq, Int.reduceLT]
            refine CondV_split (fun hk => ?_) fun hk => ?_
            · rw [if_pos hk] at hnk
              simp -dsimp -implicitDefEqProofs only [go_sem, Nat.reduceAdd, Nat.reduceEqDiff, reduceIte, reduceCtorEq, Nat.reduceLeDiff, Nat.reduceLT, Nat.reduceSub, Int.reduceEq, Int.reduceLT, hnk, CondV_true, elemA, idx_slice_0]
              refine DoesK_of (lives_call _ _ _) ?_
              rintro v s' ⟨rfl, h', c', rfl, f⟩
              simp -dsimp -implicitDefEqProofs only [go_sem, Nat.reduceAdd, Nat.reduceEqDiff, reduceIte, reduceCtorEq, Nat.reduceLeDiff, Nat.reduceLT, Nat.reduceSub, Int.reduceEq, Int.reduceLT]
            · rw [if_neg (by simp [hk])] at hnk
              simp -dsimp -implicitDefEqProofs only [go_sem, Nat.reduceAdd, Nat.reduceEqDiff, reduceIte, reduceCtorEq, Nat.reduceLeDiff, Nat.reduceLT, Nat.reduceSub, Int.reduceEq, Int.reduceLT, hnk, CondV_true, elemA, idx_slice_0]
              refine DoesK_of (lives_call _ _ _) ?_
              rintro v s' ⟨rfl, h', c', rfl, f⟩
              simp -dsimp -implicitDefEqProofs only [go_sem, Nat.reduceAdd, Nat.reduceEqDiff, reduceIte, reduceCtorEq, Nat.reduceLeDiff, Nat.reduceLT, Nat.reduceSub, Int.reduceEq, Int.reduceLT]

end Go.Proofs.YtggdpckdlcngpaaDoor
