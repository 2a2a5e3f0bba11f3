/- Keys: the program's way and the document's say the same. -/
import Derived.Test.YtggdpckdlcngpaaDoorL17
import Derived.Lib.IndexMore
set_option linter.unusedVariables false
set_option linter.unusedSimpArgs false
namespace Go.Proofs.YtggdpckdlcngpaaDoor
open Abs Go.RowKit

def refKeys : List (List UInt8) := [[108, 101, 116], [114, 101, 99], [105, 110], [102, 117, 110], [105, 102], [116, 104, 101, 110], [101, 108, 115, 101], [109, 97, 116, 99, 104], [119, 105, 116, 104], [101, 110, 100], [116, 114, 121], [112, 114, 105, 110, 116], [114, 97, 105, 115, 101], [115, 112, 97, 119, 110], [97, 116, 111, 109, 105, 99, 97, 108, 108, 121], [114, 101, 116, 114, 121], [111, 114, 101, 108, 115, 101], [116, 118, 97, 114], [114, 101, 97, 100], [119, 114, 105, 116, 101], [116, 121, 112, 101], [111, 102], [100, 111]]

theorem keys_in : (refKeys.all fun w => Lib.contains keysText ([32] ++ w ++ [32]) && !Lib.contains w [32] && decide (w ≠ [])) = true := by kernel_rfl
theorem keys_out : ((List.range keysText.length).all fun i => match keysText.drop i with | [] => true | b :: l => !(b == 32) || decide (l.takeWhile (· != 32) = []) || refKeys.contains (l.takeWhile (· != 32))) = true := by kernel_rfl

theorem contains_one : ∀ (s : List UInt8) (b : UInt8), Lib.index s [b] = -1 → b ∉ s
  | [], b, _ => by simp
  | c :: l, b, h => by
    rw [Lib.index] at h
    split at h
    · simp at h
    · rename_i hp
      split at h
      · rename_i h1
        have h2 : Lib.index l [b] = -1 := by simpa using h1
        have := contains_one l b h2
        simp [List.isPrefixOf] at hp
        simp; exact ⟨hp, this⟩
      · rename_i h1
        have := Lib.index_spec l [b]
        rcases this with ⟨h2, _⟩ | ⟨i, h2, _⟩
        · rw [h2] at h1; simp at h1
        · rw [h2] at h; omega

theorem takeWhile_blank : ∀ (s r : List UInt8), (32 : UInt8) ∉ s → (s ++ 32 :: r).takeWhile (· != 32) = s
  | [], r, _ => by simp
  | c :: l, r, h => by
    simp at h
    rw [List.cons_append, List.takeWhile_cons, if_pos (by simp; exact fun e => h.1 e.symm), takeWhile_blank l r h.2]

theorem key_same (s : List UInt8) : keyP s = decide (s ∈ refKeys) := by
  have hin := List.all_eq_true.1 keys_in
  by_cases hs : s ∈ refKeys
  · have := hin s hs
    simp only [Bool.and_eq_true] at this
    simp only [keyP, hs, decide_true, this.1.1, this.1.2, this.2, Bool.and_self]
  · rw [decide_eq_false hs]
    cases hk : keyP s with
    | false => rfl
    | true =>
      exfalso
      simp only [keyP, Bool.and_eq_true, decide_eq_true_eq, Bool.not_eq_true'] at hk
      obtain ⟨h1, h2, h3⟩ := hk
      have hb : (32 : UInt8) ∉ s := by
        refine contains_one s 32 ?_
        rcases Lib.index_spec s [32] with ⟨h, _⟩ | ⟨i, h, _⟩
        · exact h
        · simp [Lib.contains, h] at h2
      rcases Lib.index_spec keysText ([32] ++ s ++ [32]) with ⟨h, _⟩ | ⟨i, h, hi, ho, _⟩
      · rw [Lib.contains, h] at h3; simp at h3
      · have ho : ([32] ++ s ++ [32]).isPrefixOf (keysText.drop i) = true := ho
        obtain ⟨r, hr⟩ := List.isPrefixOf_iff_prefix.1 ho
        have hil : i < keysText.length := by
          rcases Nat.lt_or_ge i keysText.length with h' | h'
          · exact h'
          · rw [List.drop_eq_nil_of_le h'] at hr; simp at hr
        have := List.all_eq_true.1 keys_out i (List.mem_range.2 hil)
        rw [← hr] at this
        have e : [32] ++ s ++ [32] ++ r = 32 :: (s ++ 32 :: r) := by simp
        rw [e] at this
        simp only [takeWhile_blank s r hb] at this
        simp [h1, hs] at this

theorem rkey_call (s : List UInt8) (st : ASt) : Does X 16 [.str s] st fun v s' => v = .bool (keyP s) ∧ s' = st := by
  obtain ⟨h, c, d⟩ := st
  refine call_aw b16 rfl rfl rfl ?_; delta b16
  have hl : (refKeys.map AV.str).length = 23 := rfl
  have hp : partsV (ev [(2, .bool false), (0, .str s)]) 1 (refKeys.map fun w => .val (.str w)) = some (refKeys.map AV.str) := by kernel_rfl
  simp only [refKeys, List.map_cons, List.map_nil] at hp
  simp -dsimp -implicitDefEqProofs only [go_sem, Nat.reduceAdd, Nat.reduceEqDiff, reduceIte, reduceCtorEq, Nat.reduceLeDiff, Nat.reduceLT, Nat.reduceSub, Int.reduceEq, Int.reduceLT, hp]
  have hW : (AV.slice .full [AV.str [108, 101, 116], .str [114, 101, 99], .str [105, 110], .str [102, 117, 110], .str [105, 102], .str [116, 104, 101, 110], .str [101, 108, 115, 101], .str [109, 97, 116, 99, 104], .str [119, 105, 116, 104], .str [101, 110, 100], .str [116, 114, 121], .str [112, 114, 105, 110, 116], .str [114, 97, 105, 115, 101], .str [115, 112, 97, 119, 110], .str [97, 116, 111, 109, 105, 99, 97, 108, 108, 121], .str [114, 101, 116, 114, 121], .str [111, 114, 101, 108, 115, 101], .str [116, 118, 97, 114], .str [114, 101, 97, 100], .str [119, 114, 105, 116, 101], .str [116, 121, 112, 101], .str [111, 102], .str [100, 111]]) = .slice .full (refKeys.map AV.str) := rfl
  rw [hW]
  let I : Nat → AEnv → ASt → Prop := fun m e st => ∃ j : Nat, m = 23 - j ∧ j ≤ 23 ∧ (∀ i, i < j → refKeys[i]? ≠ some s) ∧ e.get 0 = .str s ∧ e.get 3 = .slice .full (refKeys.map AV.str) ∧ e.get 4 = .int .i64 (j : Int) ∧ st = ⟨h, c, []⟩
  refine LoopK_rule I 23 ⟨0, rfl, Nat.zero_le _, fun i hi => by omega, rfl, rfl, rfl, rfl⟩ ?_
  rintro m e st ⟨j, rfl, hj, hno, g0, g3, g4, rfl⟩
  simp -dsimp -implicitDefEqProofs only [go_sem, Nat.reduceAdd, Nat.reduceEqDiff, reduceIte, reduceCtorEq, Nat.reduceLeDiff, Nat.reduceLT, Nat.reduceSub, Int.reduceEq, Int.reduceLT, g0, g3, g4, hl]
  refine CondV_split (fun hc => ?_) fun hc => ?_
  · have hj' : j < 23 := by simp at hc; omega
    obtain ⟨w, hg⟩ : ∃ w, refKeys[j]? = some w := ⟨_, List.getElem?_eq_getElem (show j < refKeys.length from hj')⟩
    simp -dsimp -implicitDefEqProofs only [go_sem, Nat.reduceAdd, Nat.reduceEqDiff, reduceIte, reduceCtorEq, Nat.reduceLeDiff, Nat.reduceLT, Nat.reduceSub, Int.reduceEq, Int.reduceLT, g0, g3, g4, hg, elemA]
    refine CondV_split (fun hq => ?_) fun hq => ?_
    · have hx : w = s := by simpa using hq
      simp -dsimp -implicitDefEqProofs only [go_sem, Nat.reduceAdd, Nat.reduceEqDiff, reduceIte, reduceCtorEq, Nat.reduceLeDiff, Nat.reduceLT, Nat.reduceSub, Int.reduceEq, Int.reduceLT]
      rw [key_same, decide_eq_true (List.mem_of_getElem? (hg.trans (by rw [hx])))]
    · have hx : w ≠ s := by simpa using hq
      simp -dsimp -implicitDefEqProofs only [go_sem, Nat.reduceAdd, Nat.reduceEqDiff, reduceIte, reduceCtorEq, Nat.reduceLeDiff, Nat.reduceLT, Nat.reduceSub, Int.reduceEq, Int.reduceLT, g0, g3, g4]
      refine Again.of (23 - (j + 1)) (by omega) ⟨j + 1, rfl, by omega, fun i hi => ?_, g0, g3, ?_, rfl⟩
      · rcases Nat.lt_or_ge i j with h' | h'
        · exact hno i h'
        · obtain rfl : i = j := by omega
          rw [hg]; simpa using hx
      · show AV.int .i64 (IntKind.wrap .i64 ((j : Int) + 1)) = _
        rw [wrap_i64 (by omega) (by omega)]; rfl
  · have hj' : j = 23 := by simp at hc; omega
    simp -dsimp -implicitDefEqProofs only [go_sem, Nat.reduceAdd, Nat.reduceEqDiff, reduceIte, reduceCtorEq, Nat.reduceLeDiff, Nat.reduceLT, Nat.reduceSub, Int.reduceEq, Int.reduceLT]
    rw [key_same, decide_eq_false]
    intro hm
    obtain ⟨i, hi⟩ := List.mem_iff_getElem?.1 hm
    have hil : i < refKeys.length := by
      rcases Nat.lt_or_ge i refKeys.length with h' | h'
      · exact h'
      · rw [List.getElem?_eq_none h'] at hi; cases hi
    exact hno i (by rw [hj']; exact hil) hi

theorem few_call (s : List UInt8) (st : ASt) : Does X 10 [.str s] st fun v s' => v = .str (s.take 300) ∧ s' = st := by
  obtain ⟨h, c, d⟩ := st
  refine call_aw b10 rfl rfl rfl ?_; delta b10
  simp -dsimp -implicitDefEqProofs only [go_sem, Nat.reduceAdd, Nat.reduceEqDiff, reduceIte, reduceCtorEq, Nat.reduceLeDiff, Nat.reduceLT, Nat.reduceSub, Int.reduceEq, Int.reduceLT]
  refine CondV_split (fun hc => ?_) fun hc => ?_
  · have hl : 300 ≤ s.length := by simp at hc; omega
    have hcut : cutStr none (some (.int .i64 300)) (.str s) = some (.str (s.take 300)) := by
      have := cut_hi .i64 300 s
      rw [if_pos hl] at this
      exact this
    simp -dsimp -implicitDefEqProofs only [go_sem, Nat.reduceAdd, Nat.reduceEqDiff, reduceIte, reduceCtorEq, Nat.reduceLeDiff, Nat.reduceLT, Nat.reduceSub, Int.reduceEq, Int.reduceLT, hcut]
  · have hl : s.length ≤ 300 := by simp at hc; omega
    simp -dsimp -implicitDefEqProofs only [go_sem, Nat.reduceAdd, Nat.reduceEqDiff, reduceIte, reduceCtorEq, Nat.reduceLeDiff, Nat.reduceLT, Nat.reduceSub, Int.reduceEq, Int.reduceLT]
    rw [List.take_of_length_le hl]

theorem keysLaw (s : List UInt8) : Does X 4 [.str s] s0 fun v _ => v = .bool true := by
  refine call_aw b4 rfl rfl rfl ?_; delta b4
  simp -dsimp -implicitDefEqProofs only [go_sem, Nat.reduceAdd, Nat.reduceEqDiff, reduceIte, reduceCtorEq, Nat.reduceLeDiff, Nat.reduceLT, Nat.reduceSub, Int.reduceEq, Int.reduceLT]
  refine DoesK_of (few_call _ _) ?_
  rintro v s' ⟨rfl, rfl⟩
  simp -dsimp -implicitDefEqProofs only [go_sem, Nat.reduceAdd, Nat.reduceEqDiff, reduceIte, reduceCtorEq, Nat.reduceLeDiff, Nat.reduceLT, Nat.reduceSub, Int.reduceEq, Int.reduceLT]
  refine DoesK_of (key_call _ (by simp; omega) _) ?_
  rintro v s' ⟨rfl, rfl⟩
  simp -dsimp -implicitDefEqProofs only [go_sem, Nat.reduceAdd, Nat.reduceEqDiff, reduceIte, reduceCtorEq, Nat.reduceLeDiff, Nat.reduceLT, Nat.reduceSub, Int.reduceEq, Int.reduceLT]
  refine DoesK_of (rkey_call _ _) ?_
  rintro v s' ⟨rfl, rfl⟩
  simp -dsimp -implicitDefEqProofs only [go_sem, Nat.reduceAdd, Nat.reduceEqDiff, reduceIte, reduceCtorEq, Nat.reduceLeDiff, Nat.reduceLT, Nat.reduceSub, Int.reduceEq, Int.reduceLT, eqKey, eqT, CondV_true]
  refine DoesK_of (lives_call _ _ _) ?_
  rintro v s' ⟨rfl, h', c', rfl, f⟩
  simp -dsimp -implicitDefEqProofs only [go_sem, Nat.reduceAdd, Nat.reduceEqDiff, reduceIte, reduceCtorEq, Nat.reduceLeDiff, Nat.reduceLT, Nat.reduceSub, Int.reduceEq, Int.reduceLT]

end Go.Proofs.YtggdpckdlcngpaaDoor
