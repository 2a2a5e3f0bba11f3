/- Keys: the program's way and the document's say the same. The document's Unquote. The document's token. The document's tokens. How many tokens there are. Tokens stand one behind the other. -/
import Derived.Test.YtdohdncgjendkaaDoorFA
import Derived.Lib.IndexMore
set_option linter.unusedVariables false
set_option linter.unusedSimpArgs false
namespace Go.Proofs.YtdohdncgjendkaaDoor
open Abs Go.RowKit
def refKeys : List (List UInt8) := [[108, 101, 116], [114, 101, 99], [105, 110], [102, 117, 110], [105, 102], [116, 104, 101, 110], [101, 108, 115, 101], [109, 97, 116, 99, 104], [119, 105, 116, 104], [101, 110, 100], [116, 114, 121], [112, 114, 105, 110, 116], [114, 97, 105, 115, 101], [115, 112, 97, 119, 110], [97, 116, 111, 109, 105, 99, 97, 108, 108, 121], [114, 101, 116, 114, 121], [111, 114, 101, 108, 115, 101], [116, 118, 97, 114], [114, 101, 97, 100], [119, 114, 105, 116, 101], [116, 121, 112, 101], [111, 102], [100, 111]]
theorem keys_in : (refKeys.all fun w => Lib.contains keysText ([32] ++ w ++ [32]) && !Lib.contains w [32] && decide (w ≠ [])) = true := by kernel_rfl
theorem keys_out : ((List.range keysText.length).all fun i => match keysText.drop i with | [] => true | b :: l => !(b == 32) || decide (l.takeWhile (· != 32) = []) || refKeys.contains (l.takeWhile (· != 32))) = true := by kernel_rfl
theorem contains_one : ∀ (s : List UInt8) (b : UInt8), Lib.index s [b] = -1 → b ∉ s
 | [], b, _ => by simp
 | c :: l, b, h => by
  rw [Lib.index] at h
  split at h
  ·simp at h
  ·rename_i hp
   split at h
   ·rename_i h1
    have h2 : Lib.index l [b] = -1 := by simpa using h1
    have := contains_one l b h2
    simp [List.isPrefixOf] at hp
    simp; exact ⟨hp, this⟩
   ·rename_i h1
    have := Lib.index_spec l [b]
    rcases this with ⟨h2, _⟩ | ⟨i, h2, _⟩
    ·rw [h2] at h1; simp at h1
    ·rw [h2] at h; omega
theorem takeWhile_blank : ∀ (s r : List UInt8), (32 : UInt8) ∉ s → (s ++ 32 :: r).takeWhile (· != 32) = s
 | [], r, _ => by simp
 | c :: l, r, h => by
  simp at h
  rw [List.cons_append, List.takeWhile_cons, if_pos (by simp; exact fun e => h.1 e.symm), takeWhile_blank l r h.2]
theorem key_same (s : List UInt8) : keyP s = decide (s ∈ refKeys) := by
 have hin := List.all_eq_true.1 keys_in
 by_cases hs : s ∈ refKeys
 ·have := hin s hs
  simp only [Bool.and_eq_true] at this
  simp only [keyP, hs, decide_true, this.1.1, this.1.2, this.2, Bool.and_self]
 ·rw [decide_eq_false hs]
  cases hk : keyP s with
  | false => rfl
  | true =>
   exfalso
   simp only [keyP, Bool.and_eq_true, decide_eq_true_eq, Bool.not_eq_true'] at hk
   obtain ⟨h1, h2, h3⟩ := hk
   have hb : (32 : UInt8) ∉ s := by
    refine contains_one s 32 ?_
    rcases Lib.index_spec s [32] with ⟨h, _⟩ | ⟨i, h, _⟩
    ·exact h
    ·simp [Lib.contains, h] at h2
   rcases Lib.index_spec keysText ([32] ++ s ++ [32]) with ⟨h, _⟩ | ⟨i, h, hi, ho, _⟩
   ·rw [Lib.contains, h] at h3; simp at h3
   ·have ho : ([32] ++ s ++ [32]).isPrefixOf (keysText.drop i) = true := ho
    obtain ⟨r, hr⟩ := List.isPrefixOf_iff_prefix.1 ho
    have hil : i < keysText.length := by
     rcases Nat.lt_or_ge i keysText.length with h' | h'
     ·exact h'
     ·rw [List.drop_eq_nil_of_le h'] at hr; simp at hr
    have := List.all_eq_true.1 keys_out i (List.mem_range.2 hil)
    rw [← hr] at this
    have e : [32] ++ s ++ [32] ++ r = 32 :: (s ++ 32 :: r) := by simp
    rw [e] at this
    simp only [takeWhile_blank s r hb] at this
    simp [h1, hs] at this
theorem rkey_call (s : List UInt8) (st : ASt) : Does X 25 [.str s] st fun v s' => v = .bool (keyP s) ∧ s' = st := by
 obtain ⟨h, c, d⟩ := st
 refine call_aw b25 rfl rfl rfl ?_; delta b25
 have hl : (refKeys.map AV.str).length = 23 := rfl
 have hp : partsV (ev [(2, .bool false), (0, .str s)]) 1 (refKeys.map fun w => .val (.str w)) = some (refKeys.map AV.str) := by kernel_rfl
 simp only [refKeys, List.map_cons, List.map_nil] at hp
 simp -dsimp -implicitDefEqProofs only [go_sem, Nat.reduceAdd, Nat.reduceEqDiff, reduceIte, reduceCtorEq, Nat.reduceLeDiff, Nat.reduceLT, Nat.reduceSub, Int.reduceEq, Int.reduceLT, hp]
 have hW : (AV.slice .full [AV.str [108, 101, 116], .str [114, 101, 99], .str [105, 110], .str [102, 117, 110], .str [105, 102], .str [116, 104, 101, 110], .str [101, 108, 115, 101], .str [109, 97, 116, 99, 104], .str [119, 105, 116, 104], .str [101, 110, 100], .str [116, 114, 121], .str [112, 114, 105, 110, 116], .str [114, 97, 105, 115, 101], .str [115, 112, 97, 119, 110], .str [97, 116, 111, 109, 105, 99, 97, 108, 108, 121], .str [114, 101, 116, 114, 121], .str [111, 114, 101, 108, 115, 101], .str [116, 118, 97, 114], .str [114, 101, 97, 100], .str [119, 114, 105, 116, 101], .str [116, 121, 112, 101], .str [111, 102], .str [100, 111]]) = .slice .full (refKeys.map AV.str) := rfl
 rw [hW]
 let I : Nat → AEnv → ASt → Prop := fun m e st => ∃ j : Nat, m = 23 - j ∧ j ≤ 23 ∧ (∀ i, i < j → refKeys[i]? ≠ some s) ∧ e.get 0 = .str s ∧ e.get 3 = .slice .full (refKeys.map AV.str) ∧ e.get 4 = .int .i64 (j : Int) ∧ st = ⟨h, c, []⟩
 refine LoopK_rule I 23 ⟨0, rfl, Nat.zero_le _, fun i hi => by omega, rfl, rfl, rfl, rfl⟩ ?_
 rintro m e st ⟨j, rfl, hj, hno, g0, g3, g4, rfl⟩
 simp -dsimp -implicitDefEqProofs only [go_sem, Nat.reduceAdd, Nat.reduceEqDiff, reduceIte, reduceCtorEq, Nat.reduceLeDiff, Nat.reduceLT, Nat.reduceSub, Int.reduceEq, Int.reduceLT, g0, g3, g4, hl]
 refine CondV_split (fun hc => ?_) fun hc => ?_
 ·have hj' : j < 23 := by simp at hc; omega
  obtain ⟨w, hg⟩ : ∃ w, refKeys[j]? = some w := ⟨_, List.getElem?_eq_getElem (show j < refKeys.length from hj')⟩
  simp -dsimp -implicitDefEqProofs only [go_sem, Nat.reduceAdd, Nat.reduceEqDiff, reduceIte, reduceCtorEq, Nat.reduceLeDiff, Nat.reduceLT, Nat.reduceSub, Int.reduceEq, Int.reduceLT, g0, g3, g4, hg, elemA]
  refine CondV_split (fun hq => ?_) fun hq => ?_
  ·have hx : w = s := by simpa using hq
   simp -dsimp -implicitDefEqProofs only [go_sem, Nat.reduceAdd, Nat.reduceEqDiff, reduceIte, reduceCtorEq, Nat.reduceLeDiff, Nat.reduceLT, Nat.reduceSub, Int.reduceEq, Int.reduceLT]
   rw [key_same, decide_eq_true (List.mem_of_getElem? (hg.trans (by rw [hx])))]
  ·have hx : w ≠ s := by simpa using hq
   simp -dsimp -implicitDefEqProofs only [go_sem, Nat.reduceAdd, Nat.reduceEqDiff, reduceIte, reduceCtorEq, Nat.reduceLeDiff, Nat.reduceLT, Nat.reduceSub, Int.reduceEq, Int.reduceLT, g0, g3, g4]
   refine Again.of (23 - (j + 1)) (by omega) ⟨j + 1, rfl, by omega, fun i hi => ?_, g0, g3, ?_, rfl⟩
   ·rcases Nat.lt_or_ge i j with h' | h'
    ·exact hno i h'
    ·obtain rfl : i = j := by omega
     rw [hg]; simpa using hx
   ·show AV.int .i64 (IntKind.wrap .i64 ((j : Int) + 1)) = _
    rw [wrap_i64 (by omega) (by omega)]; rfl
 ·have hj' : j = 23 := by simp at hc; omega
  simp -dsimp -implicitDefEqProofs only [go_sem, Nat.reduceAdd, Nat.reduceEqDiff, reduceIte, reduceCtorEq, Nat.reduceLeDiff, Nat.reduceLT, Nat.reduceSub, Int.reduceEq, Int.reduceLT]
  rw [key_same, decide_eq_false]
  intro hm
  obtain ⟨i, hi⟩ := List.mem_iff_getElem?.1 hm
  have hil : i < refKeys.length := by
   rcases Nat.lt_or_ge i refKeys.length with h' | h'
   ·exact h'
   ·rw [List.getElem?_eq_none h'] at hi; cases hi
  exact hno i (by rw [hj']; exact hil) hi
theorem byte_dec (c k : UInt8) (n : Int) (h : (k.toNat : Int) = n) : decide ((c.toNat : Int) = n) = decide (c = k) := by
 rw [← h, decide_eq_decide, byte_eq]
theorem byte_decn (c k : UInt8) (n : Int) (h : (k.toNat : Int) = n) : decide (¬ (c.toNat : Int) = n) = decide (c ≠ k) := by
 rw [← h, decide_eq_decide, byte_eq]
theorem hexd_call (x : UInt8) (st : ASt) : Does X 37 [.int .u8 x.toNat] st fun v s' => v = .int .i64 (hexI x) ∧ s' = st := by
 obtain ⟨h, c, d⟩ := st
 refine call_aw b37 rfl rfl rfl ?_; delta b37
 have hx := UInt8.toNat_lt x
 by_cases h1 : 48 ≤ x.toNat ∧ x.toNat ≤ 57
 ·have q1 : decide ((x.toNat : Int) ≥ 48) = true := by simp; omega
  have q2 : decide ((x.toNat : Int) ≤ 57) = true := by simp; omega
  have w1 : IntKind.wrap .u8 ((x.toNat : Int) - 48) = (x.toNat : Int) - 48 := wrap_u8 (by omega) (by omega)
  have w2 : IntKind.wrap .i64 ((x.toNat : Int) - 48) = (x.toNat : Int) - 48 := wrap_i64 (by omega) (by omega)
  have hI : hexI x = (x.toNat : Int) - 48 := by rw [hexI, hexV, if_pos h1]; simp only; omega
  simp -dsimp -implicitDefEqProofs only [go_sem, Nat.reduceAdd, Nat.reduceEqDiff, reduceIte, reduceCtorEq, Nat.reduceLeDiff, Nat.reduceLT, Nat.reduceSub, Int.reduceEq, Int.reduceLT, q1, q2, CondV_true, w1, w2, hI]
 ·have q0 : (decide ((x.toNat : Int) ≥ 48) && decide ((x.toNat : Int) ≤ 57)) = false := by simp; omega
  have hd : ∀ (k : Prop) [Decidable k], True := fun _ _ => trivial
  have step : ∀ b : Bool, b = decide ((x.toNat : Int) ≥ 48) → (b = true → decide ((x.toNat : Int) ≤ 57) = false) := by
   intro b hb ht; rw [ht] at hb; rw [← hb] at q0; simpa using q0
  by_cases h2 : 97 ≤ x.toNat ∧ x.toNat ≤ 102
  ·have q1 : decide ((x.toNat : Int) ≥ 48) = true := by simp; omega
   have q2 : decide ((x.toNat : Int) ≤ 57) = false := by simp; omega
   have q3 : decide ((x.toNat : Int) ≥ 97) = true := by simp; omega
   have q4 : decide ((x.toNat : Int) ≤ 102) = true := by simp; omega
   have w1 : IntKind.wrap .u8 ((x.toNat : Int) - 97) = (x.toNat : Int) - 97 := wrap_u8 (by omega) (by omega)
   have w2 : IntKind.wrap .i64 ((x.toNat : Int) - 97) = (x.toNat : Int) - 97 := wrap_i64 (by omega) (by omega)
   have w3 : IntKind.wrap .i64 ((x.toNat : Int) - 97 + 10) = (x.toNat : Int) - 97 + 10 := wrap_i64 (by omega) (by omega)
   have hI : hexI x = (x.toNat : Int) - 97 + 10 := by rw [hexI, hexV, if_neg h1, if_pos h2]; simp only; omega
   simp -dsimp -implicitDefEqProofs only [go_sem, Nat.reduceAdd, Nat.reduceEqDiff, reduceIte, reduceCtorEq, Nat.reduceLeDiff, Nat.reduceLT, Nat.reduceSub, Int.reduceEq, Int.reduceLT, q1, q2, q3, q4, w1, w2, w3, hI]
  ·have hI : hexI x = -1 := by rw [hexI, hexV, if_neg h1, if_neg h2]
   cases q1 : decide ((x.toNat : Int) ≥ 48) with
   | true =>
    have q2 : decide ((x.toNat : Int) ≤ 57) = false := step _ q1.symm rfl
    cases q3 : decide ((x.toNat : Int) ≥ 97) with
    | true =>
     have q4 : decide ((x.toNat : Int) ≤ 102) = false := by simp at q3 ⊢; omega
     simp -dsimp -implicitDefEqProofs only [go_sem, Nat.reduceAdd, Nat.reduceEqDiff, reduceIte, reduceCtorEq, Nat.reduceLeDiff, Nat.reduceLT, Nat.reduceSub, Int.reduceEq, Int.reduceLT, q1, q2, q3, q4, hI]
    | false => simp -dsimp -implicitDefEqProofs only [go_sem, Nat.reduceAdd, Nat.reduceEqDiff, reduceIte, reduceCtorEq, Nat.reduceLeDiff, Nat.reduceLT, Nat.reduceSub, Int.reduceEq, Int.reduceLT, q1, q2, q3, hI]
   | false =>
    have q3 : decide ((x.toNat : Int) ≥ 97) = false := by simp at q1 ⊢; omega
    simp -dsimp -implicitDefEqProofs only [go_sem, Nat.reduceAdd, Nat.reduceEqDiff, reduceIte, reduceCtorEq, Nat.reduceLeDiff, Nat.reduceLT, Nat.reduceSub, Int.reduceEq, Int.reduceLT, q1, q3, hI]
set_option maxHeartbeats 4000000 in
theorem runq_call (s : List UInt8) (hs : s.length < 4294967281) (h : Hp) (c : Nat) (d : List (Nat × List AV)) : Does X 22 [.str s] ⟨h, c, d⟩ fun v s' => v = unqA (unq s) ∧ ∃ h' c', s' = ⟨h', c', d⟩ ∧ Fr h c h' c' [] := by
 refine call_aw b22 rfl rfl rfl ?_; delta b22
 cases s with
 | nil =>
  simp -dsimp -implicitDefEqProofs only [go_sem, Nat.reduceAdd, Nat.reduceEqDiff, reduceIte, reduceCtorEq, Nat.reduceLeDiff, Nat.reduceLT, Nat.reduceSub, Int.reduceEq, Int.reduceLT, Int.cast_ofNat_Int]
  exact ⟨rfl, _, _, rfl, Fr.refl _ _ _⟩
 | cons x r =>
  have hs0 : strAt (.int .i64 0) (.str (x :: r)) = some (.int .u8 x.toNat) := rfl
  have hl0 : decide (((r.length + 1 : Nat) : Int) = 0) = false := by simp; omega
  simp -dsimp -implicitDefEqProofs only [go_sem, Nat.reduceAdd, Nat.reduceEqDiff, reduceIte, reduceCtorEq, Nat.reduceLeDiff, Nat.reduceLT, Nat.reduceSub, Int.reduceEq, Int.reduceLT, hs0, hl0]
  refine CondV_split (fun hq => ?_) fun hq => ?_
  ·have hx : x ≠ 34 := by intro e; subst e; simp at hq
   simp -dsimp -implicitDefEqProofs only [go_sem, Nat.reduceAdd, Nat.reduceEqDiff, reduceIte, reduceCtorEq, Nat.reduceLeDiff, Nat.reduceLT, Nat.reduceSub, Int.reduceEq, Int.reduceLT]
   simp only [unq, if_pos hx]
   exact ⟨rfl, _, _, rfl, Fr.refl _ _ _⟩
  ·have hx : x = 34 := byte_of (n := 34) (by simpa using hq) rfl
   simp -dsimp -implicitDefEqProofs only [go_sem, Nat.reduceAdd, Nat.reduceEqDiff, reduceIte, reduceCtorEq, Nat.reduceLeDiff, Nat.reduceLT, Nat.reduceSub, Int.reduceEq, Int.reduceLT]
   have hU : unq (x :: r) = unqK ((x :: r).drop 1) 0 [] 1 := by rw [unq, if_neg (by simp [hx])]; rfl
   rw [hU]
   generalize hS : x :: r = S at hs ⊢
   have hS1 : 1 ≤ S.length := by rw [← hS]; simp
   let I : Nat → AEnv → ASt → Prop := fun m e st => ∃ (j : Nat) (acc : List UInt8) (i : Option Nat) (H : Hp) (C : Nat), m = S.length - j ∧ 1 ≤ j ∧ j ≤ S.length ∧ acc.length ≤ j ∧ unqK (S.drop j) 0 acc j = unqK (S.drop 1) 0 [] 1 ∧ Fr h c H C [] ∧ OwnH H 1 i (acc.map byteV) ∧ (∀ k, i = some k → c ≤ k ∧ k < C) ∧
    e.get 0 = .str S ∧ e.get 5 = ownV i (acc.map byteV) ∧ e.get 6 = .int .i64 (j : Int) ∧ st = ⟨H, C, []⟩
   refine LoopK_rule I (S.length - 1) ⟨1, [], none, h, c, rfl, Nat.le_refl _, hS1, by simp, rfl, Fr.refl _ _ _, rfl, by simp, rfl, rfl, rfl, rfl⟩ ?_
   rintro m e st ⟨j, acc, i, H, C, rfl, hj1, hj, hacc, hst, hfr, how, hi, g0, g5, g6, rfl⟩
   by_cases hj' : j < S.length
   ·have hlt : decide ((j : Int) < (S.length : Int)) = true := by simp; omega
    have hge : decide ((j : Int) ≥ (S.length : Int)) = false := by simp; omega
    have hg := List.getElem?_eq_getElem hj'
    have hdr : S.drop j = S[j] :: S.drop (j + 1) := List.drop_eq_getElem_cons hj'
    generalize S[j] = y at hg hdr
    rw [hdr] at hst
    have w1 : IntKind.wrap .i64 ((j : Int) + 1) = ((j + 1 : Nat) : Int) := by rw [wrap_i64 (by omega) (by omega)]; omega
    have happ : ∀ (z : UInt8), appK C 0 1 1 ⟨H, C + 1, []⟩ (ownV i (acc.map byteV)) (.slice .full [.int .u8 z.toNat]) = some (ownV (some (i.getD C)) ((acc ++ [z]).map byteV), ⟨upd H (i.getD C) (.arr (acc.length + 1) 1), C + 1, []⟩) := by
     intro z
     have := @appK_one C 0 1 1 H (C + 1) [] i (acc.map byteV) (byteV z) .full how rfl (by simp; omega)
     simp only [List.length_map, Nat.add_zero] at this
     rw [List.map_append]
     exact this
    have next : ∀ (z : UInt8) (n : Nat) (e' : AEnv), 1 ≤ n → j + n ≤ S.length → unqK (S.drop (j + n)) 0 (acc ++ [z]) (j + n) = unqK (S.drop 1) 0 [] 1 → e'.get 0 = .str S → e'.get 5 = ownV (some (i.getD C)) ((acc ++ [z]).map byteV) → e'.get 6 = .int .i64 ((j + n : Nat) : Int) →
      Again I .mk (S.length - j) e' ⟨upd H (i.getD C) (.arr (acc.length + 1) 1), C + 1, []⟩ := by
     intro z n e' hn hjn hu q0 q5 q6
     have hci : c ≤ i.getD C ∧ i.getD C < C + 1 := by
      cases hi' : i with
      | none => have := hfr.le; exact ⟨by simp; omega, by simp⟩
      | some k => have := hi k hi'; simp; omega
     refine Again.of (S.length - (j + n)) (by omega) ⟨j + n, acc ++ [z], some (i.getD C), _, _, rfl, by omega, hjn, by simp; omega, hu, hfr.upd _ (.inr hci.1) (Nat.le_succ _), ?_, ?_, q0, q5, q6, rfl⟩
     ·simp [OwnH, upd_same]
     ·rintro k hk; injection hk with hk; subst hk; exact hci
    simp -dsimp -implicitDefEqProofs only [go_sem, Nat.reduceAdd, Nat.reduceEqDiff, reduceIte, reduceCtorEq, Nat.reduceLeDiff, Nat.reduceLT, Nat.reduceSub, Int.reduceEq, Int.reduceLT, g0, g5, g6, strAt_nat, hg, hlt]
    refine CondV_split (fun h34 => ?_) fun h34 => ?_
    ·have hy34 : y ≠ 34 := byte_ne (n := 34) (by simpa using h34) rfl
     simp -dsimp -implicitDefEqProofs only [go_sem, Nat.reduceAdd, Nat.reduceEqDiff, reduceIte, reduceCtorEq, Nat.reduceLeDiff, Nat.reduceLT, Nat.reduceSub, Int.reduceEq, Int.reduceLT, g0, g5, g6, strAt_nat, hg]
     refine CondV_split (fun h10 => ?_) fun h10 => ?_
     ·have hy : y = 10 := byte_of h10 rfl
      simp -dsimp -implicitDefEqProofs only [go_sem, Nat.reduceAdd, Nat.reduceEqDiff, reduceIte, reduceCtorEq, Nat.reduceLeDiff, Nat.reduceLT, Nat.reduceSub, Int.reduceEq, Int.reduceLT]
      rw [← hst, hy]
      exact ⟨rfl, _, _, rfl, hfr⟩
     ·have hy10 : y ≠ 10 := byte_ne h10 rfl
      rw [unqK, if_neg hy10, if_neg hy34] at hst
      simp -dsimp -implicitDefEqProofs only [go_sem, Nat.reduceAdd, Nat.reduceEqDiff, reduceIte, reduceCtorEq, Nat.reduceLeDiff, Nat.reduceLT, Nat.reduceSub, Int.reduceEq, Int.reduceLT]
      by_cases hpl : 32 ≤ y.toNat ∧ y.toNat ≤ 126
      ·have r1 : decide ((y.toNat : Int) < 32) = false := by simp; omega
       have r2 : decide ((y.toNat : Int) > 126) = false := by simp; omega
       simp -dsimp -implicitDefEqProofs only [go_sem, Nat.reduceAdd, Nat.reduceEqDiff, reduceIte, reduceCtorEq, Nat.reduceLeDiff, Nat.reduceLT, Nat.reduceSub, Int.reduceEq, Int.reduceLT, r1, r2, CondV_true, g6, w1]
       refine CondV_split (fun h92 => ?_) fun h92 => ?_
       ·have hy92 : y ≠ 92 := byte_ne (n := 92) (by simpa using h92) rfl
        rw [if_neg hy92, if_neg (by simp [plainB, hpl, hy34, hy92])] at hst
        simp -dsimp -implicitDefEqProofs only [go_sem, Nat.reduceAdd, Nat.reduceEqDiff, reduceIte, reduceCtorEq, Nat.reduceLeDiff, Nat.reduceLT, Nat.reduceSub, Int.reduceEq, Int.reduceLT, g5, partsV, happ]
        exact next y 1 _ (Nat.le_refl _) hj' hst g0 rfl rfl
       ·have hy : y = 92 := byte_of (n := 92) (by simpa using h92) rfl
        rw [if_pos hy] at hst
        simp -dsimp -implicitDefEqProofs only [go_sem, Nat.reduceAdd, Nat.reduceEqDiff, reduceIte, reduceCtorEq, Nat.reduceLeDiff, Nat.reduceLT, Nat.reduceSub, Int.reduceEq, Int.reduceLT, g0]
        by_cases hj2 : j + 1 < S.length
        ·have hge2 : decide (((j + 1 : Nat) : Int) ≥ (S.length : Int)) = false := by simp; omega
         have hg2 := List.getElem?_eq_getElem hj2
         have hdr2 : S.drop (j + 1) = S[j + 1] :: S.drop (j + 2) := List.drop_eq_getElem_cons hj2
         generalize S[j + 1] = z at hg2 hdr2
         have w2 : IntKind.wrap .i64 (((j + 1 : Nat) : Int) + 1) = ((j + 2 : Nat) : Int) := by rw [wrap_i64 (by omega) (by omega)]; omega
         have e1 := byte_dec z 110 110 rfl
         have e2 := byte_dec z 34 34 rfl
         have e3 := byte_dec z 92 92 rfl
         have e4 := byte_dec z 120 120 rfl
         rw [hdr2, escP] at hst
         simp -dsimp -implicitDefEqProofs only [go_sem, Nat.reduceAdd, Nat.reduceEqDiff, reduceIte, reduceCtorEq, Nat.reduceLeDiff, Nat.reduceLT, Nat.reduceSub, Int.reduceEq, Int.reduceLT, hge2, CondV_false, g0, g5, strAt_nat, hg2, w2, e1]
         refine CondV_split (fun q1 => ?_) fun q1 => ?_
         ·have hz : z = 110 := by simpa using q1
          rw [if_pos hz, if_neg (by simp), ← hdr2, unqK_drop, List.drop_drop] at hst
          have h10 := happ 10
          simp -dsimp -implicitDefEqProofs only [go_sem, Nat.reduceAdd, Nat.reduceEqDiff, reduceIte, reduceCtorEq, Nat.reduceLeDiff, Nat.reduceLT, Nat.reduceSub, Int.reduceEq, Int.reduceLT, g5, partsV, show (AV.int .u8 10) = .int .u8 ((10 : UInt8).toNat : Int) from rfl, h10]
          exact next 10 2 _ (by decide) (by omega) hst g0 rfl rfl
         ·have hz1 : z ≠ 110 := by simpa using q1
          rw [if_neg hz1] at hst
          by_cases hz2 : z = 34
          ·have f2 : decide (z = 34) = true := by simpa using hz2
           rw [if_pos hz2, if_neg (by simp), ← hdr2, unqK_drop, List.drop_drop] at hst
           have h34' := happ z
           simp -dsimp -implicitDefEqProofs only [go_sem, Nat.reduceAdd, Nat.reduceEqDiff, reduceIte, reduceCtorEq, Nat.reduceLeDiff, Nat.reduceLT, Nat.reduceSub, Int.reduceEq, Int.reduceLT, e2, f2, CondV_true, g5, partsV, h34']
           exact next z 2 _ (by decide) (by omega) (by rw [hz2]; exact hst) g0 rfl rfl
          ·have f2 : decide (z = 34) = false := by simpa using hz2
           rw [if_neg hz2] at hst
           by_cases hz3 : z = 92
           ·have f3 : decide (z = 92) = true := by simpa using hz3
            rw [if_pos hz3, if_neg (by simp), ← hdr2, unqK_drop, List.drop_drop] at hst
            have h92' := happ z
            simp -dsimp -implicitDefEqProofs only [go_sem, Nat.reduceAdd, Nat.reduceEqDiff, reduceIte, reduceCtorEq, Nat.reduceLeDiff, Nat.reduceLT, Nat.reduceSub, Int.reduceEq, Int.reduceLT, e2, f2, e3, f3, CondV_true, g5, partsV, h92']
            exact next z 2 _ (by decide) (by omega) (by rw [hz3]; exact hst) g0 rfl rfl
           ·have f3 : decide (z = 92) = false := by simpa using hz3
            rw [if_neg hz3] at hst
            simp -dsimp -implicitDefEqProofs only [go_sem, Nat.reduceAdd, Nat.reduceEqDiff, reduceIte, reduceCtorEq, Nat.reduceLeDiff, Nat.reduceLT, Nat.reduceSub, Int.reduceEq, Int.reduceLT, e2, f2, e3, f3, g5, partsV, e4]
            refine CondV_split (fun q4 => ?_) fun q4 => ?_
            ·have hz4 : z = 120 := by simpa using q4
             rw [if_neg (show ¬ z ≠ 120 by simp [hz4])] at hst
             simp -dsimp -implicitDefEqProofs only [go_sem, Nat.reduceAdd, Nat.reduceEqDiff, reduceIte, reduceCtorEq, Nat.reduceLeDiff, Nat.reduceLT, Nat.reduceSub, Int.reduceEq, Int.reduceLT]
             let J : Nat → AEnv → ASt → Prop := fun m e st => ∃ q n : Nat, m = 2 - q ∧ q ≤ 2 ∧ n < 16 ^ q ∧ hexStep (2 - q) n (S.drop (j + 2 + q)) = hexStep 2 0 (S.drop (j + 2)) ∧ (q ≠ 0 → j + 2 + q ≤ S.length) ∧ e.get 0 = .str S ∧ e.get 5 = ownV i (acc.map byteV) ∧ e.get 6 = .int .i64 ((j + 2 + q : Nat) : Int) ∧ e.get 9 = .int .i64 (n : Int) ∧ e.get 10 = .int .i64 (q : Int) ∧ st = ⟨H, C, []⟩
             refine LoopK_rule J 2 ⟨0, 0, rfl, by decide, by decide, rfl, by simp, g0, g5, rfl, rfl, rfl, rfl⟩ ?_
             rintro m e st ⟨q, n, rfl, hq2, hn, hx, hql, g0, g5, g6, g9, g10, rfl⟩
             simp -dsimp -implicitDefEqProofs only [go_sem, Nat.reduceAdd, Nat.reduceEqDiff, reduceIte, reduceCtorEq, Nat.reduceLeDiff, Nat.reduceLT, Nat.reduceSub, Int.reduceEq, Int.reduceLT, g10]
             refine CondV_split (fun hc => ?_) fun hc => ?_
             ·have hqq : q < 2 := by simp at hc; omega
              have h2q : 2 - q = (1 - q) + 1 := by omega
              by_cases hj3 : j + 2 + q < S.length
              ·have hge3 : decide (((j + 2 + q : Nat) : Int) ≥ (S.length : Int)) = false := by simp; omega
               have hg3 := List.getElem?_eq_getElem hj3
               have hdr3 : S.drop (j + 2 + q) = S[j + 2 + q] :: S.drop (j + 2 + q + 1) := List.drop_eq_getElem_cons hj3
               generalize S[j + 2 + q] = u at hg3 hdr3
               rw [hdr3, h2q, hexStep] at hx
               simp -dsimp -implicitDefEqProofs only [go_sem, Nat.reduceAdd, Nat.reduceEqDiff, reduceIte, reduceCtorEq, Nat.reduceLeDiff, Nat.reduceLT, Nat.reduceSub, Int.reduceEq, Int.reduceLT, g0, g5, g6, g9, g10, hge3, CondV_false, strAt_nat, hg3]
               refine DoesK_of (hexd_call _ _) ?_
               rintro v s' ⟨rfl, rfl⟩
               cases hu : hexV u with
               | none =>
                rw [hu] at hx
                have hI : hexI u = -1 := by rw [hexI, hu]
                simp -dsimp -implicitDefEqProofs only [go_sem, Nat.reduceAdd, Nat.reduceEqDiff, reduceIte, reduceCtorEq, Nat.reduceLeDiff, Nat.reduceLT, Nat.reduceSub, Int.reduceEq, Int.reduceLT, hI]
                rw [← hx] at hst
                rw [← hst]
                exact ⟨rfl, _, _, rfl, hfr⟩
               | some y' =>
                rw [hu] at hx
                have hy16 := hexV_lt hu
                have hn16 : n < 16 := by
                 rcases (show q = 0 ∨ q = 1 by omega) with rfl | rfl
                 ·simp at hn; omega
                 ·simpa using hn
                have hI : hexI u = (y' : Int) := by rw [hexI, hu]
                have hI2 : decide ((y' : Int) < 0) = false := by simp
                have v1 : IntKind.wrap .i64 (16 * (n : Int)) = ((16 * n : Nat) : Int) := by rw [wrap_i64 (by omega) (by omega)]; omega
                have v2 : IntKind.wrap .i64 (((16 * n : Nat) : Int) + (y' : Int)) = ((16 * n + y' : Nat) : Int) := by rw [wrap_i64 (by omega) (by omega)]; omega
                have v3 : IntKind.wrap .i64 (((j + 2 + q : Nat) : Int) + 1) = ((j + 2 + (q + 1) : Nat) : Int) := by rw [wrap_i64 (by omega) (by omega)]; omega
                have v4 : IntKind.wrap .i64 ((q : Int) + 1) = ((q + 1 : Nat) : Int) := by rw [wrap_i64 (by omega) (by omega)]; omega
                simp -dsimp -implicitDefEqProofs only [go_sem, Nat.reduceAdd, Nat.reduceEqDiff, reduceIte, reduceCtorEq, Nat.reduceLeDiff, Nat.reduceLT, Nat.reduceSub, Int.reduceEq, Int.reduceLT, hI, hI2, g6, g9, g10, v1, v2, v3, v4, CondV_false]
                refine Again.of (2 - (q + 1)) (by omega) ⟨q + 1, 16 * n + y', rfl, by omega, ?_, ?_, fun _ => by omega, g0, g5, rfl, rfl, rfl, rfl⟩
                ·rcases (show q = 0 ∨ q = 1 by omega) with rfl | rfl
                 ·simp at hn; subst hn; simpa using hy16
                 ·simp at hn ⊢; omega
                ·rw [← hx, show 2 - (q + 1) = 1 - q by omega]; rfl
              ·have hge3 : decide (((j + 2 + q : Nat) : Int) ≥ (S.length : Int)) = true := by simp; omega
               have hdr3 : S.drop (j + 2 + q) = [] := by rw [List.drop_eq_nil_iff]; omega
               rw [hdr3, h2q, hexStep] at hx
               rw [← hx] at hst
               simp -dsimp -implicitDefEqProofs only [go_sem, Nat.reduceAdd, Nat.reduceEqDiff, reduceIte, reduceCtorEq, Nat.reduceLeDiff, Nat.reduceLT, Nat.reduceSub, Int.reduceEq, Int.reduceLT, g0, g6, hge3]
               rw [← hst]
               exact ⟨rfl, _, _, rfl, hfr⟩
             ·have hqq : q = 2 := by simp at hc; omega
              subst hqq
              have hx' : hexStep 2 0 (S.drop (j + 2)) = (0, UInt8.ofNat n, 3) := hx.symm
              rw [hx', if_neg (by simp), ← hdr2, unqK_drop, List.drop_drop] at hst
              have hn256 : n < 256 := by simpa using hn
              have hw : IntKind.wrap .u8 (n : Int) = ((UInt8.ofNat n).toNat : Int) := by
               rw [wrap_u8 (by omega) (by omega)]; simp [Nat.mod_eq_of_lt hn256]
              have hap := happ (UInt8.ofNat n)
              simp -dsimp -implicitDefEqProofs only [go_sem, Nat.reduceAdd, Nat.reduceEqDiff, reduceIte, reduceCtorEq, Nat.reduceLeDiff, Nat.reduceLT, Nat.reduceSub, Int.reduceEq, Int.reduceLT, g5, g9, partsV, hw, hap]
              exact next _ 4 _ (by decide) (hql (by decide)) hst g0 rfl g6
            ·have hz4 : z ≠ 120 := by simpa using q4
             rw [if_pos hz4] at hst
             simp -dsimp -implicitDefEqProofs only [go_sem, Nat.reduceAdd, Nat.reduceEqDiff, reduceIte, reduceCtorEq, Nat.reduceLeDiff, Nat.reduceLT, Nat.reduceSub, Int.reduceEq, Int.reduceLT]
             rw [← hst]
             exact ⟨rfl, _, _, rfl, hfr⟩
        ·have hge2 : decide (((j + 1 : Nat) : Int) ≥ (S.length : Int)) = true := by simp; omega
         have hdr2 : S.drop (j + 1) = [] := by rw [List.drop_eq_nil_iff]; omega
         rw [hdr2] at hst
         simp -dsimp -implicitDefEqProofs only [go_sem, Nat.reduceAdd, Nat.reduceEqDiff, reduceIte, reduceCtorEq, Nat.reduceLeDiff, Nat.reduceLT, Nat.reduceSub, Int.reduceEq, Int.reduceLT, hge2]
         rw [← hst]
         exact ⟨rfl, _, _, rfl, hfr⟩
      ·have hnp : plainB y = false := by
        simp only [plainB, Bool.and_eq_false_iff, decide_eq_false_iff_not]; omega
       have hy92 : y ≠ 92 := by intro e; apply hpl; rw [e]; decide
       rw [if_neg hy92, if_pos hnp] at hst
       cases r1 : decide ((y.toNat : Int) < 32) with
       | true =>
        simp -dsimp -implicitDefEqProofs only [go_sem, Nat.reduceAdd, Nat.reduceEqDiff, reduceIte, reduceCtorEq, Nat.reduceLeDiff, Nat.reduceLT, Nat.reduceSub, Int.reduceEq, Int.reduceLT, r1]
        rw [← hst]
        exact ⟨rfl, _, _, rfl, hfr⟩
       | false =>
        have r2 : decide ((y.toNat : Int) > 126) = true := by simp at r1 ⊢; omega
        simp -dsimp -implicitDefEqProofs only [go_sem, Nat.reduceAdd, Nat.reduceEqDiff, reduceIte, reduceCtorEq, Nat.reduceLeDiff, Nat.reduceLT, Nat.reduceSub, Int.reduceEq, Int.reduceLT, r1, r2]
        rw [← hst]
        exact ⟨rfl, _, _, rfl, hfr⟩
    ·have hy : y = 34 := byte_of (n := 34) (by simpa using h34) rfl
     rw [unqK, if_neg (by simp [hy]), if_pos hy] at hst
     simp -dsimp -implicitDefEqProofs only [go_sem, Nat.reduceAdd, Nat.reduceEqDiff, reduceIte, reduceCtorEq, Nat.reduceLeDiff, Nat.reduceLT, Nat.reduceSub, Int.reduceEq, Int.reduceLT, g0, g5, g6, hge, len_own i _ how, List.length_map]
     refine CondV_split (fun hl => ?_) fun hl => ?_
     ·have hl' : 60 < acc.length := by simp at hl; omega
      rw [if_pos hl'] at hst
      simp -dsimp -implicitDefEqProofs only [go_sem, Nat.reduceAdd, Nat.reduceEqDiff, reduceIte, reduceCtorEq, Nat.reduceLeDiff, Nat.reduceLT, Nat.reduceSub, Int.reduceEq, Int.reduceLT]
      rw [← hst]
      exact ⟨rfl, _, _, rfl, hfr⟩
     ·have hl' : ¬ 60 < acc.length := by simp at hl; omega
      rw [if_neg hl'] at hst
      simp -dsimp -implicitDefEqProofs only [go_sem, Nat.reduceAdd, Nat.reduceEqDiff, reduceIte, reduceCtorEq, Nat.reduceLeDiff, Nat.reduceLT, Nat.reduceSub, Int.reduceEq, Int.reduceLT, g0, g5, g6, str_own i acc how, w1]
      rw [← hst]
      exact ⟨rfl, _, _, rfl, hfr⟩
   ·have hlt : decide ((j : Int) < (S.length : Int)) = false := by simp; omega
    have hge : decide ((j : Int) ≥ (S.length : Int)) = true := by simp; omega
    have hdr : S.drop j = [] := by rw [List.drop_eq_nil_iff]; omega
    simp -dsimp -implicitDefEqProofs only [go_sem, Nat.reduceAdd, Nat.reduceEqDiff, reduceIte, reduceCtorEq, Nat.reduceLeDiff, Nat.reduceLT, Nat.reduceSub, Int.reduceEq, Int.reduceLT, g0, g5, g6, hlt, hge, CondV_false]
    rw [← hst, hdr]
    exact ⟨rfl, _, _, rfl, hfr⟩
theorem indexByte_ge : ∀ (l : List UInt8) (c : UInt8), decide (Lib.indexByte l c ≥ 0) = decide (c ∈ l)
 | [], c => by simp [Lib.indexByte]
 | b :: l, c => by
  have ih := indexByte_ge l c
  rw [decide_eq_decide] at ih ⊢
  by_cases h : b = c
  ·subst h; simp [Lib.indexByte]
  ·have h' : (b == c) = false := by simpa using h
   simp only [Lib.indexByte, h', Bool.false_eq_true, if_false]
   have hne : ¬ c = b := fun e => h e.symm
   simp only [List.mem_cons, hne, false_or]
   rw [← ih]
   split
   ·rename_i h1
    have : Lib.indexByte l c = -1 := by simpa using h1
    simp [this]
   ·rename_i h1
    have h2 : Lib.indexByte l c ≠ -1 := by simpa using h1
    have : -1 ≤ Lib.indexByte l c := by
     clear ih h1 h2
     induction l with
     | nil => simp [Lib.indexByte]
     | cons x y ih2 => simp only [Lib.indexByte]; split <;> (try split) <;> omega
    omega
theorem rsign_call (x : UInt8) (st : ASt) : Does X 26 [.int .u8 x.toNat] st fun v s' => v = .bool (signB x) ∧ s' = st := by
 obtain ⟨h, c, d⟩ := st
 refine call_aw b26 rfl rfl rfl ?_; delta b26
 simp -dsimp -implicitDefEqProofs only [go_sem, Nat.reduceAdd, Nat.reduceEqDiff, reduceIte, reduceCtorEq, Nat.reduceLeDiff, Nat.reduceLT, Nat.reduceSub, Int.reduceEq, Int.reduceLT]
 have hS : signB x = decide (x ∈ signsText) := by rw [signB, indexByte_ge]
 let I : Nat → AEnv → ASt → Prop := fun m e st => ∃ j : Nat, m = 14 - j ∧ j ≤ 14 ∧ (∀ i, i < j → signsText[i]? ≠ some x) ∧ e.get 0 = .int .u8 x.toNat ∧ e.get 3 = .str signsText ∧ e.get 4 = .int .i64 (j : Int) ∧ st = ⟨h, c, []⟩
 refine LoopK_rule I 14 ⟨0, rfl, Nat.zero_le _, fun i hi => by omega, rfl, rfl, rfl, rfl⟩ ?_
 rintro m e st ⟨j, rfl, hj, hno, g0, g3, g4, rfl⟩
 have hl : (signsText.length : Int) = 14 := rfl
 simp -dsimp -implicitDefEqProofs only [go_sem, Nat.reduceAdd, Nat.reduceEqDiff, reduceIte, reduceCtorEq, Nat.reduceLeDiff, Nat.reduceLT, Nat.reduceSub, Int.reduceEq, Int.reduceLT, g0, g3, g4, hl]
 refine CondV_split (fun hc => ?_) fun hc => ?_
 ·have hj' : j < 14 := by simp at hc; omega
  obtain ⟨w, hg⟩ : ∃ w, signsText[j]? = some w := ⟨_, List.getElem?_eq_getElem (show j < signsText.length from hj')⟩
  simp -dsimp -implicitDefEqProofs only [go_sem, Nat.reduceAdd, Nat.reduceEqDiff, reduceIte, reduceCtorEq, Nat.reduceLeDiff, Nat.reduceLT, Nat.reduceSub, Int.reduceEq, Int.reduceLT, g0, g3, g4, strAt_nat, hg]
  refine CondV_split (fun hq => ?_) fun hq => ?_
  ·have hx : w = x := by rwa [decide_eq_true_eq, byte_eq] at hq
   simp -dsimp -implicitDefEqProofs only [go_sem, Nat.reduceAdd, Nat.reduceEqDiff, reduceIte, reduceCtorEq, Nat.reduceLeDiff, Nat.reduceLT, Nat.reduceSub, Int.reduceEq, Int.reduceLT]
   rw [hS, decide_eq_true (List.mem_of_getElem? (hg.trans (by rw [hx])))]
  ·have hx : w ≠ x := by rwa [decide_eq_false_iff_not, byte_eq] at hq
   simp -dsimp -implicitDefEqProofs only [go_sem, Nat.reduceAdd, Nat.reduceEqDiff, reduceIte, reduceCtorEq, Nat.reduceLeDiff, Nat.reduceLT, Nat.reduceSub, Int.reduceEq, Int.reduceLT, g0, g3, g4]
   refine Again.of (14 - (j + 1)) (by omega) ⟨j + 1, rfl, by omega, fun i hi => ?_, g0, g3, ?_, rfl⟩
   ·rcases Nat.lt_or_ge i j with h' | h'
    ·exact hno i h'
    ·obtain rfl : i = j := by omega
     rw [hg]; simpa using hx
   ·show AV.int .i64 (IntKind.wrap .i64 ((j : Int) + 1)) = _
    rw [wrap_i64 (by omega) (by omega)]; rfl
 ·have hj' : j = 14 := by simp at hc; omega
  simp -dsimp -implicitDefEqProofs only [go_sem, Nat.reduceAdd, Nat.reduceEqDiff, reduceIte, reduceCtorEq, Nat.reduceLeDiff, Nat.reduceLT, Nat.reduceSub, Int.reduceEq, Int.reduceLT]
  rw [hS, decide_eq_false]
  intro hm
  obtain ⟨i, hi⟩ := List.mem_iff_getElem?.1 hm
  have hil : i < signsText.length := by
   rcases Nat.lt_or_ge i signsText.length with h' | h'
   ·exact h'
   ·rw [List.getElem?_eq_none h'] at hi; cases hi
  exact hno i (by rw [hj']; exact hil) hi
/-- What token answers. -/
def TokA (h : Hp) (c : Nat) (d : List (Nat × List AV)) (p : Int × Tk × Nat) : AV → ASt → Prop := fun v s' =>
 ∃ (k : Int) (w : List UInt8) (n : Int) (l : Nat) (h' : Hp) (c' : Nat), v = .tuple [.agg (tokC k w n 0), .int .i64 (l : Int), .int .i64 p.1] ∧ s' = ⟨h', c', d⟩ ∧ Fr h c h' c' [] ∧ (p.1 = 0 → k = p.2.1.k ∧ w = p.2.1.t ∧ n = p.2.1.n ∧ l = p.2.2)
set_option maxHeartbeats 4000000 in
theorem rtoken_call (x : UInt8) (r : List UInt8) (hs : (x :: r).length < 4294967281) (h : Hp) (c : Nat) (d : List (Nat × List AV)) : Does X 16 [.str (x :: r)] ⟨h, c, d⟩ (TokA h c d (tokP (x :: r))) := by
 refine call_aw b16 rfl rfl rfl ?_; delta b16
 have hs0 : strAt (.int .i64 0) (.str (x :: r)) = some (.int .u8 x.toNat) := rfl
 simp -dsimp -implicitDefEqProofs only [go_sem, Nat.reduceAdd, Nat.reduceEqDiff, reduceIte, reduceCtorEq, Nat.reduceLeDiff, Nat.reduceLT, Nat.reduceSub, Int.reduceEq, Int.reduceLT, preH, OpK_alloc, hs0]
 refine DoesK_of (rdigit_call _ _) ?_
 rintro v s' ⟨rfl, rfl⟩
 have hc0 : upd h c (.cells zeroT) c = some (.cells zeroT) := upd_same _ _ _
 have hF : Fr h c (upd h c (.cells zeroT)) (c + 1) [] := (Fr.refl _ _ _).upd _ (.inr (Nat.le_refl _)) (Nat.le_succ _)
 simp -dsimp -implicitDefEqProofs only [go_sem, Nat.reduceAdd, Nat.reduceEqDiff, reduceIte, reduceCtorEq, Nat.reduceLeDiff, Nat.reduceLT, Nat.reduceSub, Int.reduceEq, Int.reduceLT]
 refine CondV_split (fun hd => ?_) fun hd => ?_
 ·change Aw X _ _ _ _ _ ⟨upd h c (.cells zeroT), _, _⟩
  generalize upd h c (.cells zeroT) = H at hc0 hF ⊢
  simp -dsimp -implicitDefEqProofs only [go_sem, Nat.reduceAdd, Nat.reduceEqDiff, reduceIte, reduceCtorEq, Nat.reduceLeDiff, Nat.reduceLT, Nat.reduceSub, Int.reduceEq, Int.reduceLT]
  have hd : digitB x = true := hd
  have hP : tokP (x :: r) = if decV 0 ((x :: r).takeWhile digitB) ≤ 4611686018427387903 then (0, ⟨1, [], (decV 0 ((x :: r).takeWhile digitB) : Nat)⟩, ((x :: r).takeWhile digitB).length) else (13, ⟨0, [], 0⟩, 0) := by
   rw [tokP, if_pos hd]
  have hw1 : 1 ≤ ((x :: r).takeWhile digitB).length := by rw [List.takeWhile_cons, if_pos hd]; simp
  have hdig := digits_take (x :: r)
  have htk := spanN_take digitB (x :: r)
  have hsp1 : 1 + spanN digitB ((x :: r).drop 1) = ((x :: r).takeWhile digitB).length := by
   have := spanN_cons digitB x r
   rw [if_pos hd] at this
   exact this.symm
  have hwle := takeWhile_len digitB (x :: r)
  rw [spanN] at htk
  rw [hP]
  generalize hS : x :: r = S at *
  generalize hw : S.takeWhile digitB = w at *
  have hS1 : 1 ≤ S.length := by rw [← hS]; simp
  let I : Nat → AEnv → ASt → Prop := fun m e st => ∃ j : Nat, m = S.length - j ∧ 1 ≤ j ∧ j ≤ S.length ∧ j + spanN digitB (S.drop j) = w.length ∧ e.get 0 = .str S ∧ e.get 2 = .ptr c 0 ∧ e.get 6 = .int .i64 (j : Int) ∧ st = ⟨H, c + 1, []⟩
  refine LoopK_rule I (S.length - 1) ⟨1, rfl, Nat.le_refl _, hS1, hsp1, rfl, rfl, rfl, rfl⟩ ?_
  rintro m e st ⟨j, rfl, hj1, hj, hjs, g0, g2, g6, rfl⟩
  have tail : ∀ (e : AEnv) (K : AV → ASt → Prop), True := fun _ _ => trivial
  by_cases hj' : j < S.length ∧ digitB (S[j]?.getD 0) = true
  ·obtain ⟨hjl, hdj⟩ := hj'
   have hlt : decide ((j : Int) < (S.length : Int)) = true := by simp; omega
   have hg := List.getElem?_eq_getElem hjl
   have hdr : S.drop j = S[j] :: S.drop (j + 1) := List.drop_eq_getElem_cons hjl
   generalize S[j] = y at hg hdr
   rw [hg, Option.getD_some] at hdj
   simp -dsimp -implicitDefEqProofs only [go_sem, Nat.reduceAdd, Nat.reduceEqDiff, reduceIte, reduceCtorEq, Nat.reduceLeDiff, Nat.reduceLT, Nat.reduceSub, Int.reduceEq, Int.reduceLT, g0, g6, hlt, CondV_true, strAt_nat, hg]
   refine DoesK_of (rdigit_call _ _) ?_
   rintro v s' ⟨rfl, rfl⟩
   have hdj' : isDigit (y.toNat : Int) = true := hdj
   simp -dsimp -implicitDefEqProofs only [go_sem, Nat.reduceAdd, Nat.reduceEqDiff, reduceIte, reduceCtorEq, Nat.reduceLeDiff, Nat.reduceLT, Nat.reduceSub, Int.reduceEq, Int.reduceLT, hdj', CondV_true, g6]
   refine Again.of (S.length - (j + 1)) (by omega) ⟨j + 1, rfl, by omega, hjl, ?_, g0, g2, ?_, rfl⟩
   ·rw [← hjs, hdr, spanN_cons, if_pos hdj]; omega
   ·show AV.int .i64 (IntKind.wrap .i64 ((j : Int) + 1)) = _
    rw [wrap_i64 (by omega) (by omega)]; rfl
  ·have hjN : j = w.length := by
    rcases Nat.lt_or_ge j S.length with hjl | hjl
    ·have hg := List.getElem?_eq_getElem hjl
     have hdr : S.drop j = S[j] :: S.drop (j + 1) := List.drop_eq_getElem_cons hjl
     rw [← hjs, hdr, spanN_cons, if_neg]
     ·rfl
     ·intro h1; exact hj' ⟨hjl, by rw [hg]; exact h1⟩
    ·rw [← hjs, List.drop_eq_nil_of_le hjl]; rfl
   have hwS : w.length ≤ S.length := hwle
   have hwg : ∀ k, k < w.length → S[k]? = w[k]? := by
    intro k hk
    have h1 : w[k]? = (S.take w.length)[k]? := by rw [htk]
    rw [h1, List.getElem?_take, if_pos hk]
   subst hjN
   have hor : decide ((w.length : Int) < (S.length : Int)) = false ∨ ∃ y, decide ((w.length : Int) < (S.length : Int)) = true ∧ S[w.length]? = some y ∧ isDigit y.toNat = false := by
    by_cases hjl : w.length < S.length
    ·have hg := List.getElem?_eq_getElem hjl
     refine .inr ⟨S[w.length], by simp; omega, hg, ?_⟩
     cases hq : isDigit (S[w.length]).toNat with
     | false => rfl
     | true => exact absurd ⟨hjl, by rw [hg]; exact hq⟩ hj'
    ·exact .inl (by simp; omega)
   let J : Nat → AEnv → ASt → Prop := fun m e st => ∃ k v : Nat, m = w.length - k ∧ k ≤ w.length ∧ v ≤ 4611686018427387903 ∧ decV v (w.drop k) = decV 0 w ∧ e.get 0 = .str S ∧ e.get 2 = .ptr c 0 ∧ e.get 6 = .int .i64 (w.length : Int) ∧ e.get 7 = .int .i64 (v : Int) ∧ e.get 8 = .int .i64 (k : Int) ∧ st = ⟨H, c + 1, []⟩
   rcases hor with hA | ⟨y, hA, hB, hC⟩
   rotate_left
   simp -dsimp -implicitDefEqProofs only [go_sem, Nat.reduceAdd, Nat.reduceEqDiff, reduceIte, reduceCtorEq, Nat.reduceLeDiff, Nat.reduceLT, Nat.reduceSub, Int.reduceEq, Int.reduceLT, g0, g6, hA, CondV_true, strAt_nat, hB]
   refine DoesK_of (rdigit_call _ _) ?_
   rintro v s' ⟨rfl, rfl⟩
   simp -dsimp -implicitDefEqProofs only [go_sem, Nat.reduceAdd, Nat.reduceEqDiff, reduceIte, reduceCtorEq, Nat.reduceLeDiff, Nat.reduceLT, Nat.reduceSub, Int.reduceEq, Int.reduceLT, hC]
   rotate_left
   simp -dsimp -implicitDefEqProofs only [go_sem, Nat.reduceAdd, Nat.reduceEqDiff, reduceIte, reduceCtorEq, Nat.reduceLeDiff, Nat.reduceLT, Nat.reduceSub, Int.reduceEq, Int.reduceLT, g0, g6, hA, CondV_false]
   all_goals
    refine LoopK_rule J w.length ⟨0, 0, rfl, Nat.zero_le _, Nat.zero_le _, rfl, g0, g2, g6, rfl, rfl, rfl⟩ ?_
    rintro m e st ⟨k, v, rfl, hk, hv, hval, g0, g2, g6, g7, g8, rfl⟩
    simp -dsimp -implicitDefEqProofs only [go_sem, Nat.reduceAdd, Nat.reduceEqDiff, reduceIte, reduceCtorEq, Nat.reduceLeDiff, Nat.reduceLT, Nat.reduceSub, Int.reduceEq, Int.reduceLT, g6, g8]
    refine CondV_split (fun hc => ?_) fun hc => ?_
    ·have hk' : k < w.length := by simpa using hc
     have hg := List.getElem?_eq_getElem hk'
     have hdr : w.drop k = w[k] :: w.drop (k + 1) := List.drop_eq_getElem_cons hk'
     have hb := hdig w[k] (List.getElem_mem hk')
     have hval2 : decV (10 * v + (w[k].toNat - 48)) (w.drop (k + 1)) = decV 0 w := by rw [← hval, hdr]; rfl
     have hgs := (hwg k hk').trans hg
     generalize w[k] = u at hg hdr hb hval2 hgs
     obtain ⟨q, hq, hq9⟩ : ∃ q : Nat, q = u.toNat - 48 ∧ q ≤ 9 := ⟨_, rfl, by omega⟩
     rw [← hq] at hval2
     have w1 : IntKind.wrap .u8 ((u.toNat : Int) - 48) = (q : Int) := by rw [wrap_u8 (by omega) (by omega)]; omega
     have w2 : IntKind.wrap .i64 (q : Int) = (q : Int) := wrap_i64 (by omega) (by omega)
     have w3 : IntKind.wrap .i64 (4611686018427387903 - (q : Int)) = ((4611686018427387903 - q : Nat) : Int) := by rw [wrap_i64 (by omega) (by omega)]; omega
     have w4 : IntKind.wrap .i64 ((((4611686018427387903 - q : Nat) : Int)).tdiv 10) = (((4611686018427387903 - q) / 10 : Nat) : Int) := by
      rw [show (10 : Int) = ((10 : Nat) : Int) from rfl, ← Int.ofNat_tdiv, wrap_i64 (by omega) (by omega)]
     simp -dsimp -implicitDefEqProofs only [go_sem, Nat.reduceAdd, Nat.reduceEqDiff, reduceIte, reduceCtorEq, Nat.reduceLeDiff, Nat.reduceLT, Nat.reduceSub, Int.reduceEq, Int.reduceLT, g0, g7, g8, strAt_nat, hgs, w1, w2, w3, w4]
     refine CondV_split (fun hx => ?_) fun hx => ?_
     ·have hx' : (4611686018427387903 - q) / 10 < v := by have := hx; simp only [decide_eq_true_eq] at this; omega
      have hbig : ¬ decV 0 w ≤ 4611686018427387903 := by
       have := decV_ge (w.drop (k + 1)) (10 * v + q)
       rw [hval2] at this
       omega
      rw [if_neg hbig]
      simp -dsimp -implicitDefEqProofs only [go_sem, Nat.reduceAdd, Nat.reduceEqDiff, reduceIte, reduceCtorEq, Nat.reduceLeDiff, Nat.reduceLT, Nat.reduceSub, Int.reduceEq, Int.reduceLT, g2, fillV, hc0, zeroT, ldCells]
      exact ⟨_, _, _, 0, _, _, rfl, rfl, hF.upd _ (.inr (Nat.le_refl _)) (Nat.le_refl _), fun e => by simp at e⟩
     ·have hx' : ¬ (4611686018427387903 - q) / 10 < v := by have := hx; simp only [decide_eq_false_iff_not] at this; omega
      have w5 : IntKind.wrap .i64 (10 * (v : Int)) = ((10 * v : Nat) : Int) := by rw [wrap_i64 (by omega) (by omega)]; omega
      have w6 : IntKind.wrap .i64 (((10 * v : Nat) : Int) + (q : Int)) = ((10 * v + q : Nat) : Int) := by rw [wrap_i64 (by omega) (by omega)]; omega
      simp -dsimp -implicitDefEqProofs only [go_sem, Nat.reduceAdd, Nat.reduceEqDiff, reduceIte, reduceCtorEq, Nat.reduceLeDiff, Nat.reduceLT, Nat.reduceSub, Int.reduceEq, Int.reduceLT, g7, g8, w5, w6]
      refine Again.of (w.length - (k + 1)) (by omega) ⟨k + 1, 10 * v + q, rfl, by omega, by omega, hval2, g0, g2, g6, rfl, ?_, rfl⟩
      show AV.int .i64 (IntKind.wrap .i64 ((k : Int) + 1)) = _
      rw [wrap_i64 (by omega) (by omega)]; rfl
    ·obtain rfl : k = w.length := by simp at hc; omega
     have hv2 : v = decV 0 w := by rw [← hval, List.drop_length]; rfl
     rw [if_pos (by omega)]
     simp -dsimp -implicitDefEqProofs only [go_sem, Nat.reduceAdd, Nat.reduceEqDiff, reduceIte, reduceCtorEq, Nat.reduceLeDiff, Nat.reduceLT, Nat.reduceSub, Int.reduceEq, Int.reduceLT, g2, g6, g7, fillV, hc0, zeroT, ldCells]
     exact ⟨_, _, _, _, _, _, rfl, rfl, hF.upd _ (.inr (Nat.le_refl _)) (Nat.le_refl _), fun e => ⟨rfl, rfl, by rw [hv2], rfl⟩⟩
 ·have hd : digitB x = false := hd
  change Aw X _ _ _ _ _ ⟨upd h c (.cells zeroT), _, _⟩
  generalize upd h c (.cells zeroT) = H at hc0 hF ⊢
  simp -dsimp -implicitDefEqProofs only [go_sem, Nat.reduceAdd, Nat.reduceEqDiff, reduceIte, reduceCtorEq, Nat.reduceLeDiff, Nat.reduceLT, Nat.reduceSub, Int.reduceEq, Int.reduceLT]
  refine CondV_split (fun hq => ?_) fun hq => ?_
  ·have hx34 : x = 34 := byte_of hq rfl
   have hP : tokP (x :: r) = if (unq (x :: r)).2.2 = 0 then (0, ⟨2, (unq (x :: r)).1, 0⟩, (unq (x :: r)).2.1) else ((unq (x :: r)).2.2, ⟨0, [], 0⟩, 0) := by
    rw [tokP, if_neg (by simp [hd]), if_pos hx34]
   rw [hP]
   simp -dsimp -implicitDefEqProofs only [go_sem, Nat.reduceAdd, Nat.reduceEqDiff, reduceIte, reduceCtorEq, Nat.reduceLeDiff, Nat.reduceLT, Nat.reduceSub, Int.reduceEq, Int.reduceLT]
   refine DoesK_of (runq_call _ hs _ _ _) ?_
   rintro v s' ⟨rfl, h1, c1, rfl, f1⟩
   have hc1 : h1 c = some (.cells zeroT) := (f1.at (Nat.lt_succ_self _) (by simp)).trans hc0
   generalize unq (x :: r) = p
   obtain ⟨p1, p2, p3⟩ := p
   simp -dsimp -implicitDefEqProofs only [go_sem, Nat.reduceAdd, Nat.reduceEqDiff, reduceIte, reduceCtorEq, Nat.reduceLeDiff, Nat.reduceLT, Nat.reduceSub, Int.reduceEq, Int.reduceLT, unqA, fillV, hc1, zeroT, ldCells]
   have hF2 := (hF.trans f1 (by simp)).upd (.cells [.int .i64 2, .str p1, .int .i64 0, .int .i64 0]) (.inr (Nat.le_refl c)) (Nat.le_refl c1)
   by_cases he : p3 = 0
   ·rw [if_pos he, he]
    exact ⟨_, _, _, _, _, _, rfl, rfl, hF2, fun e => ⟨rfl, rfl, rfl, rfl⟩⟩
   ·rw [if_neg he]
    exact ⟨_, _, _, _, _, _, rfl, rfl, hF2, fun e => absurd e he⟩
  ·have hx34 : x ≠ 34 := byte_ne hq rfl
   simp -dsimp -implicitDefEqProofs only [go_sem, Nat.reduceAdd, Nat.reduceEqDiff, reduceIte, reduceCtorEq, Nat.reduceLeDiff, Nat.reduceLT, Nat.reduceSub, Int.reduceEq, Int.reduceLT]
   refine DoesK_of (rsmall_call _ _) ?_
   rintro v s' ⟨rfl, rfl⟩
   have hT : tokP (x :: r) = if (smallB x || largeB x) = true then (if 16 < ((x :: r).takeWhile innerB).length then (12, ⟨0, [], 0⟩, 0) else (0, ⟨nameKind ((x :: r).takeWhile innerB), (x :: r).takeWhile innerB, 0⟩, ((x :: r).takeWhile innerB).length))
     else if signB x = true then (if (x :: r).take 2 = [45, 62] then (0, ⟨5, (x :: r).take 2, 0⟩, 2) else (0, ⟨5, (x :: r).take 1, 0⟩, 1)) else (10, ⟨0, [], 0⟩, 0) := by
    rw [tokP, if_neg (by simp [hd]), if_neg hx34]
   rw [hT]
   have hor : (smallB x || largeB x) = false ∨ (smallB x || largeB x) = true := by cases (smallB x || largeB x) <;> simp
   rcases hor with hn | hn
   ·rw [if_neg (by simp [hn])]
    rw [Bool.or_eq_false_iff] at hn
    have hsm : isSmall (x.toNat : Int) = false := hn.1
    have hlg : isLarge (x.toNat : Int) = false := hn.2
    simp -dsimp -implicitDefEqProofs only [go_sem, Nat.reduceAdd, Nat.reduceEqDiff, reduceIte, reduceCtorEq, Nat.reduceLeDiff, Nat.reduceLT, Nat.reduceSub, Int.reduceEq, Int.reduceLT, hsm]
    refine DoesK_of (rlarge_call _ _) ?_
    rintro v s' ⟨rfl, rfl⟩
    have q45 := byte_dec x 45 45 rfl
    by_cases harr : ∃ r', x = 45 ∧ r = 62 :: r'
    ·obtain ⟨r', rfl, rfl⟩ := harr
     have hs1 : strAt (.int .i64 1) (.str (45 :: 62 :: r')) = some (.int .u8 62) := rfl
     have hl : decide ((((62 :: r').length + 1 : Nat) : Int) > 1) = true := by simp; omega
     have hl' : decide (((r'.length + 1 + 1 : Nat) : Int) > 1) = true := by simp; omega
     have hsg : signB 45 = true := rfl
     simp -dsimp -implicitDefEqProofs only [go_sem, Nat.reduceAdd, Nat.reduceEqDiff, reduceIte, reduceCtorEq, Nat.reduceLeDiff, Nat.reduceLT, Nat.reduceSub, Int.reduceEq, Int.reduceLT, hsm, hlg, CondV_false, q45, CondV_true, hs1, hl, hl', fillV, hc0, zeroT, ldCells]
     rw [if_pos hsg]
     exact ⟨_, _, _, 2, _, _, rfl, rfl, hF.upd _ (.inr (Nat.le_refl _)) (Nat.le_refl _), fun e => ⟨rfl, rfl, rfl, rfl⟩⟩
    ·have hn2 : ¬ (x :: r).take 2 = [45, 62] := by
      intro e0
      cases r with
      | nil => simp at e0
      | cons y r' => simp at e0; exact harr ⟨r', e0.1, by rw [e0.2]⟩
     rw [if_neg hn2]
     have hor : decide (x = 45) = false ∨ (decide (x = 45) = true ∧ decide (((r.length + 1 : Nat) : Int) > 1) = false) ∨ ∃ y r', decide (x = 45) = true ∧ r = y :: r' ∧ decide ((y.toNat : Int) = 62) = false := by
      by_cases h45 : x = 45
      ·cases r with
       | nil => exact .inr (.inl ⟨by simpa using h45, rfl⟩)
       | cons y r' =>
        refine .inr (.inr ⟨y, r', by simpa using h45, rfl, ?_⟩)
        rw [byte_dec y 62 62 rfl, decide_eq_false]
        intro e0; exact harr ⟨r', h45, by rw [e0]⟩
      ·exact .inl (by simpa using h45)
     rcases hor with hA | ⟨hA, hB⟩ | ⟨y, r', hA, rfl, hC⟩
     simp -dsimp -implicitDefEqProofs only [go_sem, Nat.reduceAdd, Nat.reduceEqDiff, reduceIte, reduceCtorEq, Nat.reduceLeDiff, Nat.reduceLT, Nat.reduceSub, Int.reduceEq, Int.reduceLT, hsm, hlg, CondV_false, q45, hA]
     rotate_left
     simp -dsimp -implicitDefEqProofs only [go_sem, Nat.reduceAdd, Nat.reduceEqDiff, reduceIte, reduceCtorEq, Nat.reduceLeDiff, Nat.reduceLT, Nat.reduceSub, Int.reduceEq, Int.reduceLT, hsm, hlg, CondV_false, CondV_true, q45, hA, hB]
     rotate_left
     have hs1 : strAt (.int .i64 1) (.str (x :: y :: r')) = some (.int .u8 y.toNat) := rfl
     have hl' : decide (((r'.length + 1 + 1 : Nat) : Int) > 1) = true := by simp; omega
     simp -dsimp -implicitDefEqProofs only [go_sem, Nat.reduceAdd, Nat.reduceEqDiff, reduceIte, reduceCtorEq, Nat.reduceLeDiff, Nat.reduceLT, Nat.reduceSub, Int.reduceEq, Int.reduceLT, hsm, hlg, CondV_false, CondV_true, q45, hA, hC, hl', hs1]
     all_goals
      refine DoesK_of (rsign_call _ _) ?_
      rintro v s' ⟨rfl, rfl⟩
      simp -dsimp -implicitDefEqProofs only [go_sem, Nat.reduceAdd, Nat.reduceEqDiff, reduceIte, reduceCtorEq, Nat.reduceLeDiff, Nat.reduceLT, Nat.reduceSub, Int.reduceEq, Int.reduceLT]
      refine CondV_split (fun hsg => ?_) fun hsg => ?_
      ·rw [if_pos hsg]
       have hcut : ∀ l : List UInt8, cutStr none (some (.int .i64 1)) (.str (x :: l)) = some (.str [x]) := by
        intro l; simp [cutStr, boundsA, natOf]
       simp -dsimp -implicitDefEqProofs only [go_sem, Nat.reduceAdd, Nat.reduceEqDiff, reduceIte, reduceCtorEq, Nat.reduceLeDiff, Nat.reduceLT, Nat.reduceSub, Int.reduceEq, Int.reduceLT, hcut, fillV, hc0, zeroT, ldCells]
       exact ⟨_, _, _, 1, _, _, rfl, rfl, hF.upd _ (.inr (Nat.le_refl _)) (Nat.le_refl _), fun e => ⟨rfl, rfl, rfl, rfl⟩⟩
      ·rw [if_neg (by simp [hsg])]
       simp -dsimp -implicitDefEqProofs only [go_sem, Nat.reduceAdd, Nat.reduceEqDiff, reduceIte, reduceCtorEq, Nat.reduceLeDiff, Nat.reduceLT, Nat.reduceSub, Int.reduceEq, Int.reduceLT, fillV, hc0, zeroT, ldCells]
       exact ⟨_, _, _, 0, _, _, rfl, rfl, hF.upd _ (.inr (Nat.le_refl _)) (Nat.le_refl _), fun e => by simp at e⟩
   ·rw [if_pos hn]
    have hin : innerB x = true := by
     simp only [innerB, isInner, smallB, largeB, Bool.or_eq_true] at hn ⊢
     exact hn.elim .inl fun h => .inr (.inl h)
    have hw1 : 1 ≤ ((x :: r).takeWhile innerB).length := by rw [List.takeWhile_cons, if_pos hin]; simp
    have htk := spanN_take innerB (x :: r)
    have hsp1 : 1 + spanN innerB ((x :: r).drop 1) = ((x :: r).takeWhile innerB).length := by
     have := spanN_cons innerB x r
     rw [if_pos hin] at this
     exact this.symm
    have hwle := takeWhile_len innerB (x :: r)
    rw [spanN] at htk
    have hkind : nameKind ((x :: r).takeWhile innerB) = if isLarge x.toNat then 4 else if keyP ((x :: r).takeWhile innerB) then 6 else 3 := by
     rw [List.takeWhile_cons, if_pos hin]; rfl
    have hs0' := hs0
    have hor : isSmall (x.toNat : Int) = true ∨ (isSmall (x.toNat : Int) = false ∧ isLarge (x.toNat : Int) = true) := by
     simp only [smallB, largeB, Bool.or_eq_true] at hn
     cases hsm : isSmall (x.toNat : Int) with
     | true => exact .inl rfl
     | false => exact .inr ⟨rfl, by simpa [hsm] using hn⟩
    generalize hS : x :: r = S at *
    generalize hw : S.takeWhile innerB = w at *
    have hS1 : 1 ≤ S.length := by rw [← hS]; simp
    rcases hor with hsm | ⟨hsm, hlg⟩
    simp -dsimp -implicitDefEqProofs only [go_sem, Nat.reduceAdd, Nat.reduceEqDiff, reduceIte, reduceCtorEq, Nat.reduceLeDiff, Nat.reduceLT, Nat.reduceSub, Int.reduceEq, Int.reduceLT, hsm]
    rotate_left
    simp -dsimp -implicitDefEqProofs only [go_sem, Nat.reduceAdd, Nat.reduceEqDiff, reduceIte, reduceCtorEq, Nat.reduceLeDiff, Nat.reduceLT, Nat.reduceSub, Int.reduceEq, Int.reduceLT, hsm]
    refine DoesK_of (rlarge_call _ _) ?_
    rintro v s' ⟨rfl, rfl⟩
    simp -dsimp -implicitDefEqProofs only [go_sem, Nat.reduceAdd, Nat.reduceEqDiff, reduceIte, reduceCtorEq, Nat.reduceLeDiff, Nat.reduceLT, Nat.reduceSub, Int.reduceEq, Int.reduceLT, hsm, hlg]
    all_goals
     let I : Nat → AEnv → ASt → Prop := fun m e st => ∃ j : Nat, m = S.length - j ∧ 1 ≤ j ∧ j ≤ S.length ∧ j + spanN innerB (S.drop j) = w.length ∧ e.get 0 = .str S ∧ e.get 2 = .ptr c 0 ∧ e.get 5 = .int .u8 x.toNat ∧ e.get 6 = .int .i64 (j : Int) ∧ st = ⟨H, c + 1, []⟩
     refine LoopK_rule I (S.length - 1) ⟨1, rfl, Nat.le_refl _, hS1, hsp1, rfl, rfl, rfl, rfl, rfl⟩ ?_
     rintro m e st ⟨j, rfl, hj1, hj, hjs, g0, g2, g5, g6, rfl⟩
     have again : ∀ e' : AEnv, j < S.length → innerB (S[j]?.getD 0) = true → e'.get 0 = .str S → e'.get 2 = .ptr c 0 → e'.get 5 = .int .u8 x.toNat → e'.get 6 = .int .i64 (IntKind.wrap .i64 ((j : Int) + 1)) → Again I .mk (S.length - j) e' ⟨H, c + 1, []⟩ := by
      intro e' hjl hin' a0 a2 a5 a6
      have hdr : S.drop j = S[j] :: S.drop (j + 1) := List.drop_eq_getElem_cons hjl
      rw [List.getElem?_eq_getElem hjl, Option.getD_some] at hin'
      refine Again.of (S.length - (j + 1)) (by omega) ⟨j + 1, rfl, by omega, hjl, ?_, a0, a2, a5, ?_, rfl⟩
      ·rw [← hjs, hdr, spanN_cons, if_pos hin']; omega
      ·rw [a6, wrap_i64 (by omega) (by omega)]; rfl
     have ends : ¬ (j < S.length ∧ innerB (S[j]?.getD 0) = true) → j = w.length := by
      intro hj'
      rcases Nat.lt_or_ge j S.length with hjl | hjl
      ·have hg := List.getElem?_eq_getElem hjl
       have hdr : S.drop j = S[j] :: S.drop (j + 1) := List.drop_eq_getElem_cons hjl
       rw [← hjs, hdr, spanN_cons, if_neg]
       ·rfl
       ·intro h1; exact hj' ⟨hjl, by rw [hg]; exact h1⟩
      ·rw [← hjs, List.drop_eq_nil_of_le hjl]; rfl
     cases hlt : decide ((j : Int) < (S.length : Int)) with
     | false =>
      have hjN := ends (by simp at hlt; omega)
      clear again ends
      simp -dsimp -implicitDefEqProofs only [go_sem, Nat.reduceAdd, Nat.reduceEqDiff, reduceIte, reduceCtorEq, Nat.reduceLeDiff, Nat.reduceLT, Nat.reduceSub, Int.reduceEq, Int.reduceLT, g0, g6, hlt, CondV_false]
      subst hjN
      refine CondV_split (fun h16 => ?_) fun h16 => ?_
      ·have h16' : 16 < w.length := by simp at h16; omega
       rw [if_pos h16']
       simp -dsimp -implicitDefEqProofs only [go_sem, Nat.reduceAdd, Nat.reduceEqDiff, reduceIte, reduceCtorEq, Nat.reduceLeDiff, Nat.reduceLT, Nat.reduceSub, Int.reduceEq, Int.reduceLT, g2, fillV, hc0, zeroT, ldCells]
       exact ⟨_, _, _, 0, _, _, rfl, rfl, hF.upd _ (.inr (Nat.le_refl _)) (Nat.le_refl _), fun e => by simp at e⟩
      ·have h16' : ¬ 16 < w.length := by simp at h16; omega
       rw [if_neg h16', hkind]
       have u1 : ∀ h o, upd h (c + 1) o c = h c := fun h o => upd_ne h o (by omega)
       simp -dsimp -implicitDefEqProofs only [go_sem, Nat.reduceAdd, Nat.reduceEqDiff, reduceIte, reduceCtorEq, Nat.reduceLeDiff, Nat.reduceLT, Nat.reduceSub, Int.reduceEq, Int.reduceLT, preH, g0, g2, g5, g6, hwle, htk, fillV, OpK_alloc]
       refine DoesK_of (rlarge_call _ _) ?_
       rintro v s' ⟨rfl, rfl⟩
       simp -dsimp -implicitDefEqProofs only [go_sem, Nat.reduceAdd, Nat.reduceEqDiff, reduceIte, reduceCtorEq, Nat.reduceLeDiff, Nat.reduceLT, Nat.reduceSub, Int.reduceEq, Int.reduceLT]
       refine CondV_split (fun hl => ?_) fun hl => ?_
       ·rw [if_pos hl]
        simp -dsimp -implicitDefEqProofs only [go_sem, Nat.reduceAdd, Nat.reduceEqDiff, reduceIte, reduceCtorEq, Nat.reduceLeDiff, Nat.reduceLT, Nat.reduceSub, Int.reduceEq, Int.reduceLT, g2, g6, u1, hc0, zeroT, ldCells]
        exact ⟨_, _, _, _, _, _, rfl, rfl, (hF.upd _ (.inr (Nat.le_succ _)) (Nat.le_succ _)).upd _ (.inr (Nat.le_refl _)) (Nat.le_refl _), fun e => ⟨rfl, rfl, rfl, rfl⟩⟩
       ·rw [if_neg (by simp [hl])]
        simp -dsimp -implicitDefEqProofs only [go_sem, Nat.reduceAdd, Nat.reduceEqDiff, reduceIte, reduceCtorEq, Nat.reduceLeDiff, Nat.reduceLT, Nat.reduceSub, Int.reduceEq, Int.reduceLT, g0, g6, hwle, htk]
        refine DoesK_of (rkey_call _ _) ?_
        rintro v s' ⟨rfl, rfl⟩
        simp -dsimp -implicitDefEqProofs only [go_sem, Nat.reduceAdd, Nat.reduceEqDiff, reduceIte, reduceCtorEq, Nat.reduceLeDiff, Nat.reduceLT, Nat.reduceSub, Int.reduceEq, Int.reduceLT]
        refine CondV_split (fun hk => ?_) fun hk => ?_
        ·rw [if_pos hk]
         simp -dsimp -implicitDefEqProofs only [go_sem, Nat.reduceAdd, Nat.reduceEqDiff, reduceIte, reduceCtorEq, Nat.reduceLeDiff, Nat.reduceLT, Nat.reduceSub, Int.reduceEq, Int.reduceLT, g2, g6, u1, hc0, zeroT, ldCells]
         exact ⟨_, _, _, _, _, _, rfl, rfl, (hF.upd _ (.inr (Nat.le_succ _)) (Nat.le_succ _)).upd _ (.inr (Nat.le_refl _)) (Nat.le_refl _), fun e => ⟨rfl, rfl, rfl, rfl⟩⟩
        ·rw [if_neg (by simp [hk])]
         simp -dsimp -implicitDefEqProofs only [go_sem, Nat.reduceAdd, Nat.reduceEqDiff, reduceIte, reduceCtorEq, Nat.reduceLeDiff, Nat.reduceLT, Nat.reduceSub, Int.reduceEq, Int.reduceLT, g2, g6, u1, hc0, zeroT, ldCells]
         exact ⟨_, _, _, _, _, _, rfl, rfl, (hF.upd _ (.inr (Nat.le_succ _)) (Nat.le_succ _)).upd _ (.inr (Nat.le_refl _)) (Nat.le_refl _), fun e => ⟨rfl, rfl, rfl, rfl⟩⟩
     | true =>
      have hjl : j < S.length := by simpa using hlt
      obtain ⟨y, hg⟩ : ∃ y, S[j]? = some y := ⟨_, List.getElem?_eq_getElem hjl⟩
      rw [hg, Option.getD_some] at again ends
      simp -dsimp -implicitDefEqProofs only [go_sem, Nat.reduceAdd, Nat.reduceEqDiff, reduceIte, reduceCtorEq, Nat.reduceLeDiff, Nat.reduceLT, Nat.reduceSub, Int.reduceEq, Int.reduceLT, g0, g6, hlt, CondV_true, strAt_nat, hg]
      have q95 := byte_dec y 95 95 rfl
      refine DoesK_of (rsmall_call _ _) ?_
      rintro v s' ⟨rfl, rfl⟩
      cases h1 : isSmall (y.toNat : Int) with
      | true =>
       simp -dsimp -implicitDefEqProofs only [go_sem, Nat.reduceAdd, Nat.reduceEqDiff, reduceIte, reduceCtorEq, Nat.reduceLeDiff, Nat.reduceLT, Nat.reduceSub, Int.reduceEq, Int.reduceLT, g6]
       exact again _ hjl (by simp [innerB, isInner, h1]) g0 g2 g5 rfl
      | false =>
       simp -dsimp -implicitDefEqProofs only [go_sem, Nat.reduceAdd, Nat.reduceEqDiff, reduceIte, reduceCtorEq, Nat.reduceLeDiff, Nat.reduceLT, Nat.reduceSub, Int.reduceEq, Int.reduceLT, g0, g6, strAt_nat, hg]
       refine DoesK_of (rlarge_call _ _) ?_
       rintro v s' ⟨rfl, rfl⟩
       cases h2 : isLarge (y.toNat : Int) with
       | true =>
        simp -dsimp -implicitDefEqProofs only [go_sem, Nat.reduceAdd, Nat.reduceEqDiff, reduceIte, reduceCtorEq, Nat.reduceLeDiff, Nat.reduceLT, Nat.reduceSub, Int.reduceEq, Int.reduceLT, g6]
        exact again _ hjl (by simp [innerB, isInner, h1, h2]) g0 g2 g5 rfl
       | false =>
        simp -dsimp -implicitDefEqProofs only [go_sem, Nat.reduceAdd, Nat.reduceEqDiff, reduceIte, reduceCtorEq, Nat.reduceLeDiff, Nat.reduceLT, Nat.reduceSub, Int.reduceEq, Int.reduceLT, g0, g6, strAt_nat, hg]
        refine DoesK_of (rdigit_call _ _) ?_
        rintro v s' ⟨rfl, rfl⟩
        cases h3 : isDigit (y.toNat : Int) with
        | true =>
         simp -dsimp -implicitDefEqProofs only [go_sem, Nat.reduceAdd, Nat.reduceEqDiff, reduceIte, reduceCtorEq, Nat.reduceLeDiff, Nat.reduceLT, Nat.reduceSub, Int.reduceEq, Int.reduceLT, g6]
         exact again _ hjl (by simp [innerB, isInner, h1, h2, h3]) g0 g2 g5 rfl
        | false =>
         simp -dsimp -implicitDefEqProofs only [go_sem, Nat.reduceAdd, Nat.reduceEqDiff, reduceIte, reduceCtorEq, Nat.reduceLeDiff, Nat.reduceLT, Nat.reduceSub, Int.reduceEq, Int.reduceLT, g0, g6, strAt_nat, hg]
         refine CondV_split (fun h4 => ?_) fun h4 => ?_
         ·simp -dsimp -implicitDefEqProofs only [go_sem, Nat.reduceAdd, Nat.reduceEqDiff, reduceIte, reduceCtorEq, Nat.reduceLeDiff, Nat.reduceLT, Nat.reduceSub, Int.reduceEq, Int.reduceLT, g6]
          exact again _ hjl (by simp only [innerB, isInner, h1, h2, h3, Bool.false_or]; exact h4) g0 g2 g5 rfl
         ·have hjN := ends (by simp only [innerB, isInner, h1, h2, h3, Bool.false_or]; rw [h4]; simp)
          clear again ends
          simp -dsimp -implicitDefEqProofs only [go_sem, Nat.reduceAdd, Nat.reduceEqDiff, reduceIte, reduceCtorEq, Nat.reduceLeDiff, Nat.reduceLT, Nat.reduceSub, Int.reduceEq, Int.reduceLT, g6]
          subst hjN
          refine CondV_split (fun h16 => ?_) fun h16 => ?_
          ·have h16' : 16 < w.length := by simp at h16; omega
           rw [if_pos h16']
           simp -dsimp -implicitDefEqProofs only [go_sem, Nat.reduceAdd, Nat.reduceEqDiff, reduceIte, reduceCtorEq, Nat.reduceLeDiff, Nat.reduceLT, Nat.reduceSub, Int.reduceEq, Int.reduceLT, g2, fillV, hc0, zeroT, ldCells]
           exact ⟨_, _, _, 0, _, _, rfl, rfl, hF.upd _ (.inr (Nat.le_refl _)) (Nat.le_refl _), fun e => by simp at e⟩
          ·have h16' : ¬ 16 < w.length := by simp at h16; omega
           rw [if_neg h16', hkind]
           have u1 : ∀ h o, upd h (c + 1) o c = h c := fun h o => upd_ne h o (by omega)
           simp -dsimp -implicitDefEqProofs only [go_sem, Nat.reduceAdd, Nat.reduceEqDiff, reduceIte, reduceCtorEq, Nat.reduceLeDiff, Nat.reduceLT, Nat.reduceSub, Int.reduceEq, Int.reduceLT, preH, g0, g2, g5, g6, hwle, htk, fillV, OpK_alloc]
           refine DoesK_of (rlarge_call _ _) ?_
           rintro v s' ⟨rfl, rfl⟩
           simp -dsimp -implicitDefEqProofs only [go_sem, Nat.reduceAdd, Nat.reduceEqDiff, reduceIte, reduceCtorEq, Nat.reduceLeDiff, Nat.reduceLT, Nat.reduceSub, Int.reduceEq, Int.reduceLT]
           refine CondV_split (fun hl => ?_) fun hl => ?_
           ·rw [if_pos hl]
            simp -dsimp -implicitDefEqProofs only [go_sem, Nat.reduceAdd, Nat.reduceEqDiff, reduceIte, reduceCtorEq, Nat.reduceLeDiff, Nat.reduceLT, Nat.reduceSub, Int.reduceEq, Int.reduceLT, g2, g6, u1, hc0, zeroT, ldCells]
            exact ⟨_, _, _, _, _, _, rfl, rfl, (hF.upd _ (.inr (Nat.le_succ _)) (Nat.le_succ _)).upd _ (.inr (Nat.le_refl _)) (Nat.le_refl _), fun e => ⟨rfl, rfl, rfl, rfl⟩⟩
           ·rw [if_neg (by simp [hl])]
            simp -dsimp -implicitDefEqProofs only [go_sem, Nat.reduceAdd, Nat.reduceEqDiff, reduceIte, reduceCtorEq, Nat.reduceLeDiff, Nat.reduceLT, Nat.reduceSub, Int.reduceEq, Int.reduceLT, g0, g6, hwle, htk]
            refine DoesK_of (rkey_call _ _) ?_
            rintro v s' ⟨rfl, rfl⟩
            simp -dsimp -implicitDefEqProofs only [go_sem, Nat.reduceAdd, Nat.reduceEqDiff, reduceIte, reduceCtorEq, Nat.reduceLeDiff, Nat.reduceLT, Nat.reduceSub, Int.reduceEq, Int.reduceLT]
            refine CondV_split (fun hk => ?_) fun hk => ?_
            ·rw [if_pos hk]
             simp -dsimp -implicitDefEqProofs only [go_sem, Nat.reduceAdd, Nat.reduceEqDiff, reduceIte, reduceCtorEq, Nat.reduceLeDiff, Nat.reduceLT, Nat.reduceSub, Int.reduceEq, Int.reduceLT, g2, g6, u1, hc0, zeroT, ldCells]
             exact ⟨_, _, _, _, _, _, rfl, rfl, (hF.upd _ (.inr (Nat.le_succ _)) (Nat.le_succ _)).upd _ (.inr (Nat.le_refl _)) (Nat.le_refl _), fun e => ⟨rfl, rfl, rfl, rfl⟩⟩
            ·rw [if_neg (by simp [hk])]
             simp -dsimp -implicitDefEqProofs only [go_sem, Nat.reduceAdd, Nat.reduceEqDiff, reduceIte, reduceCtorEq, Nat.reduceLeDiff, Nat.reduceLT, Nat.reduceSub, Int.reduceEq, Int.reduceLT, g2, g6, u1, hc0, zeroT, ldCells]
             exact ⟨_, _, _, _, _, _, rfl, rfl, (hF.upd _ (.inr (Nat.le_succ _)) (Nat.le_succ _)).upd _ (.inr (Nat.le_refl _)) (Nat.le_refl _), fun e => ⟨rfl, rfl, rfl, rfl⟩⟩
theorem toksP_at (s : List UInt8) (f j j' : Nat) (acc : List (Tk × Nat)) (h : j + skipM false (s.drop j) = j' + skipM false (s.drop j')) : toksP s f j acc = toksP s f j' acc := by
 cases f with
 | zero => rfl
 | succ f => simp only [toksP, h]
theorem skip_blank {c : UInt8} (h : c = 32 ∨ c = 9 ∨ c = 10) (r : List UInt8) : skipM false (c :: r) = 1 + skipM false r := by
 rw [skipM, if_pos h]
theorem skip_none {c : UInt8} (h : ¬ (c = 32 ∨ c = 9 ∨ c = 10)) (h' : c ≠ 35) (r : List UInt8) : skipM false (c :: r) = 0 := by
 rw [skipM, if_neg h, if_neg h']
set_option maxHeartbeats 4000000 in
theorem rtokens_call (s : List UInt8) (h : Hp) (c : Nat) (d : List (Nat × List AV)) :
  Does X 9 [.str s] ⟨h, c, d⟩ fun v s' => ∃ o, v = .tuple [.slice o ((Toks s).1.map tkV), .int .i64 ((Toks s).2.1 : Int), .int .i64 (Toks s).2.2] ∧ ∃ h' c', s' = ⟨h', c', d⟩ ∧ Fr h c h' c' [] := by
 refine call_aw b9 rfl rfl rfl ?_; delta b9
 simp -dsimp -implicitDefEqProofs only [go_sem, Nat.reduceAdd, Nat.reduceEqDiff, reduceIte, reduceCtorEq, Nat.reduceLeDiff, Nat.reduceLT, Nat.reduceSub, Int.reduceEq, Int.reduceLT]
 refine CondV_split (fun hc => ?_) fun hc => ?_
 ·have hl : 2000 < s.length := by simp at hc; omega
  simp -dsimp -implicitDefEqProofs only [go_sem, Nat.reduceAdd, Nat.reduceEqDiff, reduceIte, reduceCtorEq, Nat.reduceLeDiff, Nat.reduceLT, Nat.reduceSub, Int.reduceEq, Int.reduceLT]
  rw [Toks, if_pos hl]
  exact ⟨_, rfl, _, _, rfl, Fr.refl _ _ _⟩
 ·have hl : ¬ 2000 < s.length := by simp at hc; omega
  rw [Toks, if_neg hl]
  simp -dsimp -implicitDefEqProofs only [go_sem, Nat.reduceAdd, Nat.reduceEqDiff, reduceIte, reduceCtorEq, Nat.reduceLeDiff, Nat.reduceLT, Nat.reduceSub, Int.reduceEq, Int.reduceLT]
  let I : Nat → AEnv → ASt → Prop := fun m e st => ∃ (j f : Nat) (acc : List (Tk × Nat)) (i : Option Nat) (H : Hp) (C : Nat), m = s.length - j ∧ s.length + 1 - j ≤ f ∧ j ≤ s.length ∧ acc.length ≤ j ∧ toksP s f j acc = toksP s (s.length + 1) 0 [] ∧ Fr h c H C [] ∧ OwnH H 4 i (acc.map tkV) ∧ (∀ k, i = some k → c ≤ k ∧ k < C) ∧
   e.get 0 = .str s ∧ e.get 5 = ownV i (acc.map tkV) ∧ e.get 6 = .int .i64 (j : Int) ∧ st = ⟨H, C, []⟩
  refine LoopK_rule I s.length ⟨0, s.length + 1, [], none, _, _, rfl, Nat.le_refl _, Nat.zero_le _, by simp, rfl, Fr.refl _ _ _, rfl, by simp, rfl, rfl, rfl, rfl⟩ ?_
  rintro m e st ⟨j, f, acc, i, H, C, rfl, hf, hj, hacc, hst, hfr, how, hi, g0, g5, g6, rfl⟩
  obtain ⟨f, rfl⟩ : ∃ g, f = g + 1 := ⟨f - 1, by omega⟩
  cases hlt : decide ((j : Int) < (s.length : Int)) with
  | false =>
   have hjl : j = s.length := by simp at hlt; omega
   subst hjl
   rw [toksP, List.drop_length] at hst
   have hst2 : (acc ++ [((⟨0, [], 0⟩ : Tk), s.length)], 0, 0) = toksP s (s.length + 1) 0 [] := by rw [← hst]; simp [skipM, tokP]
   have happ : appK C 0 4 40 ⟨H, C + 1, []⟩ (ownV i (acc.map tkV)) (.slice .full [.agg [.int .i64 0, .str [], .int .i64 0, .int .i64 (s.length : Int)]]) = some (ownV (some (i.getD C)) ((acc ++ [((⟨0, [], 0⟩ : Tk), s.length)]).map tkV), ⟨upd H (i.getD C) (.arr (acc.length + 1) 4), C + 1, []⟩) := by
    have := @appK_one C 0 4 40 H (C + 1) [] i (acc.map tkV) (tkV (⟨0, [], 0⟩, s.length)) .full how rfl (by simp; omega)
    simp only [List.length_map, Nat.add_zero] at this
    rw [List.map_append]
    exact this
   have hci : c ≤ i.getD C ∧ i.getD C < C + 1 := by
    have := hfr.le
    cases hi' : i with
    | none => simp; omega
    | some k' => have := hi k' hi'; simp; omega
   simp -dsimp -implicitDefEqProofs only [go_sem, Nat.reduceAdd, Nat.reduceEqDiff, reduceIte, reduceCtorEq, Nat.reduceLeDiff, Nat.reduceLT, Nat.reduceSub, Int.reduceEq, Int.reduceLT, g0, g5, g6, hlt, CondV_false, fillV, partsV, happ]
   rw [← hst2]
   refine ⟨_, rfl, _, _, rfl, ?_⟩
   exact hfr.upd _ (.inr hci.1) (Nat.le_succ _)
  | true =>
   have hjl : j < s.length := by simpa using hlt
   obtain ⟨y, hg⟩ : ∃ y, s[j]? = some y := ⟨_, List.getElem?_eq_getElem hjl⟩
   have hdr : s.drop j = y :: s.drop (j + 1) := by rw [List.drop_eq_getElem_cons hjl]; rw [List.getElem?_eq_getElem hjl] at hg; injection hg with hg; rw [hg]
   have w1 : IntKind.wrap .i64 ((j : Int) + 1) = ((j + 1 : Nat) : Int) := by rw [wrap_i64 (by omega) (by omega)]; omega
   have q32 := byte_dec y 32 32 rfl
   have q9 := byte_dec y 9 9 rfl
   have q10 := byte_dec y 10 10 rfl
   have q35 := byte_dec y 35 35 rfl
   by_cases hb : y = 32 ∨ y = 9 ∨ y = 10
   ·have hsk : j + skipM false (s.drop j) = (j + 1) + skipM false (s.drop (j + 1)) := by rw [hdr, skip_blank hb]; omega
    rw [toksP_at s _ j (j + 1) acc hsk] at hst
    have again : ∀ e' : AEnv, e'.get 0 = .str s → e'.get 5 = ownV i (acc.map tkV) → e'.get 6 = .int .i64 ((j + 1 : Nat) : Int) → Again I .mk (s.length - j) e' ⟨H, C, []⟩ := fun e' a0 a5 a6 =>
     Again.of (s.length - (j + 1)) (by omega) ⟨j + 1, f + 1, acc, i, H, C, rfl, by omega, hjl, by omega, hst, hfr, how, hi, a0, a5, a6, rfl⟩
    rcases hb with hb | hb | hb
    ·have f1 : decide (y = 32) = true := by simpa using hb
     simp -dsimp -implicitDefEqProofs only [go_sem, Nat.reduceAdd, Nat.reduceEqDiff, reduceIte, reduceCtorEq, Nat.reduceLeDiff, Nat.reduceLT, Nat.reduceSub, Int.reduceEq, Int.reduceLT, g0, g6, hlt, strAt_nat, hg, q32, f1, w1]
     exact again _ g0 g5 rfl
    ·have f1 : decide (y = 32) = false := by rw [hb]; rfl
     have f2 : decide (y = 9) = true := by simpa using hb
     simp -dsimp -implicitDefEqProofs only [go_sem, Nat.reduceAdd, Nat.reduceEqDiff, reduceIte, reduceCtorEq, Nat.reduceLeDiff, Nat.reduceLT, Nat.reduceSub, Int.reduceEq, Int.reduceLT, g0, g6, hlt, strAt_nat, hg, q32, f1, q9, f2, w1]
     exact again _ g0 g5 rfl
    ·have f1 : decide (y = 32) = false := by rw [hb]; rfl
     have f2 : decide (y = 9) = false := by rw [hb]; rfl
     have f3 : decide (y = 10) = true := by simpa using hb
     simp -dsimp -implicitDefEqProofs only [go_sem, Nat.reduceAdd, Nat.reduceEqDiff, reduceIte, reduceCtorEq, Nat.reduceLeDiff, Nat.reduceLT, Nat.reduceSub, Int.reduceEq, Int.reduceLT, g0, g6, hlt, strAt_nat, hg, q32, f1, q9, f2, q10, f3, w1]
     exact again _ g0 g5 rfl
   ·have f1 : decide (y = 32) = false := by simp; intro e0; exact hb (.inl e0)
    have f2 : decide (y = 9) = false := by simp; intro e0; exact hb (.inr (.inl e0))
    have f3 : decide (y = 10) = false := by simp; intro e0; exact hb (.inr (.inr e0))
    simp -dsimp -implicitDefEqProofs only [go_sem, Nat.reduceAdd, Nat.reduceEqDiff, reduceIte, reduceCtorEq, Nat.reduceLeDiff, Nat.reduceLT, Nat.reduceSub, Int.reduceEq, Int.reduceLT, g0, g6, hlt, strAt_nat, hg, q32, f1, q9, f2, q10, f3, q35]
    refine CondV_split (fun h35 => ?_) fun h35 => ?_
    ·have hy : y = 35 := by simpa using h35
     simp -dsimp -implicitDefEqProofs only [go_sem, Nat.reduceAdd, Nat.reduceEqDiff, reduceIte, reduceCtorEq, Nat.reduceLeDiff, Nat.reduceLT, Nat.reduceSub, Int.reduceEq, Int.reduceLT]
     let J : Nat → AEnv → ASt → Prop := fun m e st => ∃ q : Nat, m = s.length - q ∧ j ≤ q ∧ q ≤ s.length ∧ q + skipM true (s.drop q) = j + skipM false (s.drop j) ∧ e.get 0 = .str s ∧ e.get 5 = ownV i (acc.map tkV) ∧ e.get 6 = .int .i64 (q : Int) ∧ st = ⟨H, C, []⟩
     have hsk0 : j + skipM true (s.drop j) = j + skipM false (s.drop j) := by rw [hdr, hy]; simp [skipM]
     refine LoopK_rule J (s.length - j) ⟨j, rfl, Nat.le_refl _, hj, hsk0, g0, g5, g6, rfl⟩ ?_
     rintro m e st ⟨q, rfl, hjq, hq, hsk, g0, g5, g6, rfl⟩
     have ends : ∀ e' : AEnv, q ≠ j → q + skipM false (s.drop q) = q + skipM true (s.drop q) → e'.get 0 = .str s → e'.get 5 = ownV i (acc.map tkV) → e'.get 6 = .int .i64 (q : Int) → Again I .mk (s.length - j) e' ⟨H, C, []⟩ := by
      intro e' hne hss a0 a5 a6
      have hst2 : toksP s (f + 1) q acc = toksP s (s.length + 1) 0 [] := by rw [← hst]; exact toksP_at s _ q j acc (by omega)
      exact Again.of (s.length - q) (by omega) ⟨q, f + 1, acc, i, H, C, rfl, by omega, hq, by omega, hst2, hfr, how, hi, a0, a5, a6, rfl⟩
     cases hlq : decide ((q : Int) < (s.length : Int)) with
     | false =>
      have hqe : q = s.length := by simp at hlq; omega
      simp -dsimp -implicitDefEqProofs only [go_sem, Nat.reduceAdd, Nat.reduceEqDiff, reduceIte, reduceCtorEq, Nat.reduceLeDiff, Nat.reduceLT, Nat.reduceSub, Int.reduceEq, Int.reduceLT, g0, g6, hlq, CondV_false]
      refine ends _ (by omega) ?_ g0 g5 g6
      rw [List.drop_eq_nil_of_le (by omega)]; simp [skipM]
     | true =>
      have hql : q < s.length := by simpa using hlq
      obtain ⟨z, hgz⟩ : ∃ z, s[q]? = some z := ⟨_, List.getElem?_eq_getElem hql⟩
      have hdz : s.drop q = z :: s.drop (q + 1) := by rw [List.drop_eq_getElem_cons hql]; rw [List.getElem?_eq_getElem hql] at hgz; injection hgz with hgz; rw [hgz]
      have p10 := byte_decn z 10 10 rfl
      simp -dsimp -implicitDefEqProofs only [go_sem, Nat.reduceAdd, Nat.reduceEqDiff, reduceIte, reduceCtorEq, Nat.reduceLeDiff, Nat.reduceLT, Nat.reduceSub, Int.reduceEq, Int.reduceLT, g0, g6, hlq, CondV_true, strAt_nat, hgz, p10]
      refine CondV_split (fun hz => ?_) fun hz => ?_
      ·have hz' : z ≠ 10 := by simpa using hz
       simp -dsimp -implicitDefEqProofs only [go_sem, Nat.reduceAdd, Nat.reduceEqDiff, reduceIte, reduceCtorEq, Nat.reduceLeDiff, Nat.reduceLT, Nat.reduceSub, Int.reduceEq, Int.reduceLT, g6]
       refine Again.of (s.length - (q + 1)) (by omega) ⟨q + 1, rfl, by omega, hql, ?_, g0, g5, ?_, rfl⟩
       ·rw [← hsk, hdz, skipM, if_neg hz']; omega
       ·show AV.int .i64 (IntKind.wrap .i64 ((q : Int) + 1)) = _
        rw [wrap_i64 (by omega) (by omega)]; rfl
      ·have hz' : z = 10 := by simpa using hz
       simp -dsimp -implicitDefEqProofs only [go_sem, Nat.reduceAdd, Nat.reduceEqDiff, reduceIte, reduceCtorEq, Nat.reduceLeDiff, Nat.reduceLT, Nat.reduceSub, Int.reduceEq, Int.reduceLT, g6]
       refine ends _ ?_ ?_ g0 g5 g6
       ·rintro rfl
        rw [hg] at hgz; injection hgz with e0
        rw [hy, hz'] at e0; exact absurd e0 (by decide)
       ·rw [hdz, hz']; simp [skipM]
    ·have hy : y ≠ 35 := by simpa using h35
     have hsk : skipM false (s.drop j) = 0 := by rw [hdr]; exact skip_none hb hy _
     have hjle : j ≤ s.length := hj
     simp -dsimp -implicitDefEqProofs only [go_sem, Nat.reduceAdd, Nat.reduceEqDiff, reduceIte, reduceCtorEq, Nat.reduceLeDiff, Nat.reduceLT, Nat.reduceSub, Int.reduceEq, Int.reduceLT, g0, g6, hjle, preH]
     rw [toksP, hsk, Nat.add_zero] at hst
     have htl := tokP_len (s.drop j)
     rw [List.length_drop] at htl
     have hcall := rtoken_call y (s.drop (j + 1)) (by rw [← hdr]; simp; omega) (upd H C (.cells zeroT)) (C + 1) []
     rw [← hdr] at hcall
     generalize hp : tokP (s.drop j) = p at *
     obtain ⟨p1, ⟨pk, pt, pn⟩, pl⟩ := p
     refine DoesK_of hcall ?_
     rintro v s' ⟨k, w, n, l, H1, C1, rfl, rfl, f1', hres⟩
     simp only at hst hres htl
     have hz : H1 C = some (.cells zeroT) := (f1'.at (Nat.lt_succ_self _) (by simp)).trans (upd_same _ _ _)
     by_cases he : p1 = 0
     ·subst he
      obtain ⟨rfl, rfl, rfl, hl⟩ := hres rfl
      subst hl
      rw [if_neg (by simp)] at hst
      obtain ⟨hl1, hl2, hl3⟩ := htl rfl
      have hkne : k ≠ 0 := by intro e0; have := hl2 e0; rw [hdr] at this; cases this
      rw [if_neg hkne] at hst
      have hpl := hl3 (by rw [hdr]; simp)
      have hH2 : ∀ k', i = some k' → upd H1 C (.cells [.int .i64 k, .str w, .int .i64 n, .int .i64 (j : Int)]) k' = H k' := by
       intro k' hk
       obtain ⟨h1, h2⟩ := hi k' hk
       rw [upd_ne _ _ (by omega), f1'.at (by omega) (by simp), upd_ne _ _ (by omega)]
      have happ : appK C1 0 4 40 ⟨upd H1 C (.cells [.int .i64 k, .str w, .int .i64 n, .int .i64 (j : Int)]), C1 + 1, []⟩ (ownV i (acc.map tkV)) (.slice .full [.agg [.int .i64 k, .str w, .int .i64 n, .int .i64 (j : Int)]]) = some (ownV (some (i.getD C1)) ((acc ++ [((⟨k, w, n⟩ : Tk), j)]).map tkV), ⟨upd (upd H1 C (.cells [.int .i64 k, .str w, .int .i64 n, .int .i64 (j : Int)])) (i.getD C1) (.arr (acc.length + 1) 4), C1 + 1, []⟩) := by
       have := @appK_one C1 0 4 40 (upd H1 C (.cells (tokC k w n j))) (C1 + 1) [] i (acc.map tkV) (tkV (⟨k, w, n⟩, j)) .full (how.keep hH2) rfl (by simp; omega)
       simp only [List.length_map, Nat.add_zero] at this
       rw [List.map_append]
       exact this
      have hCC1 := f1'.le
      have hcC := hfr.le
      have hci : c ≤ i.getD C1 ∧ i.getD C1 < C1 + 1 := by
       cases hi' : i with
       | none => simp; omega
       | some k' => have := hi k' hi'; simp; omega
      have w2 : IntKind.wrap .i64 ((j : Int) + (l : Int)) = ((j + l : Nat) : Int) := by rw [wrap_i64 (by omega) (by omega)]; omega
      simp -dsimp -implicitDefEqProofs only [go_sem, Nat.reduceAdd, Nat.reduceEqDiff, reduceIte, reduceCtorEq, Nat.reduceLeDiff, Nat.reduceLT, Nat.reduceSub, Int.reduceEq, Int.reduceLT, OpK_alloc, hz, zeroT, tokC, ldCells, partsV, g5, g6, happ, w2]
      refine Again.of (s.length - (j + l)) (by omega) ⟨j + l, f, acc ++ [(⟨k, w, n⟩, j)], some (i.getD C1), _, _, rfl, by omega, by omega, by simp; omega, hst, ?_, ?_, ?_, g0, rfl, rfl, rfl⟩
      ·exact ((((hfr.upd _ (.inr hcC) (Nat.le_succ _)).trans f1' (by simp)).upd _ (.inr hcC) (Nat.le_refl _)).upd _ (.inr (by omega)) (Nat.le_succ _))
      ·simp [OwnH, upd_same]
      ·rintro k' hk'; injection hk' with hk'; subst hk'; exact hci
     ·rw [if_pos he] at hst
      simp -dsimp -implicitDefEqProofs only [go_sem, Nat.reduceAdd, Nat.reduceEqDiff, reduceIte, reduceCtorEq, Nat.reduceLeDiff, Nat.reduceLT, Nat.reduceSub, Int.reduceEq, Int.reduceLT, OpK_alloc, hz, zeroT, tokC, he, g6]
      rw [← hst]
      exact ⟨_, rfl, _, _, rfl, ((hfr.upd _ (.inr hfr.le) (Nat.le_succ _)).trans f1' (by simp)).upd _ (.inr hfr.le) (Nat.le_refl _)⟩
theorem Toks_len (s : List UInt8) : (Toks s).1.length ≤ s.length + 1 := by
 have key : ∀ (f i : Nat) (acc : List (Tk × Nat)), i ≤ s.length → acc.length ≤ i → (toksP s f i acc).1.length ≤ s.length + 1 := by
  intro f
  induction f with
  | zero => intro i acc hi ha; simp [toksP]
  | succ f ih =>
   intro i acc hi ha
   have hsk := skipM_le false (s.drop i)
   rw [List.length_drop] at hsk
   have htl := tokP_len (s.drop (i + skipM false (s.drop i)))
   rw [List.length_drop] at htl
   simp only [toksP]
   split
   ·simp
   ·rename_i he
    obtain ⟨h1, h2, h3⟩ := htl (by simpa using he)
    split
    ·simp; omega
    ·rename_i hk
     have hne : s.drop (i + skipM false (s.drop i)) ≠ [] := by
      intro e0; rw [e0] at hk; simp [tokP] at hk
     have := h3 hne
     exact ih _ _ (by omega) (by simp; omega)
 rw [Toks]
 split
 ·simp
 ·exact key _ _ _ (Nat.zero_le _) (by simp)
/-- Tokens that stand one behind the other, ahead of a place. -/
def Rise (n i : Nat) (l : List (Tk × Nat)) : Prop := ∀ (j : Nat) (p : Tk × Nat), l[j]? = some p → p.1.k ≠ 0 ∧ p.2 < i ∧ p.2 < n ∧ ∀ (j' : Nat) (p' : Tk × Nat), j' < j → l[j']? = some p' → p'.2 < p.2
theorem Rise.nil (n i : Nat) : Rise n i [] := fun j p h => by simp at h
theorem Rise.snoc {n i i' : Nat} {l : List (Tk × Nat)} (h : Rise n i l) (t : Tk) (a : Nat) (hk : t.k ≠ 0) (ha : i ≤ a) (hn : a < n) (hi : a < i') : Rise n i' (l ++ [(t, a)]) := by
 intro j p hp
 rcases Nat.lt_or_ge j l.length with hj | hj
 ·rw [List.getElem?_append_left hj] at hp
  obtain ⟨h1, h2, h3, h4⟩ := h j p hp
  refine ⟨h1, by omega, h3, fun j' p' hj' hp' => ?_⟩
  rw [List.getElem?_append_left (by omega)] at hp'
  exact h4 j' p' hj' hp'
 ·rw [List.getElem?_append_right hj] at hp
  have : j - l.length = 0 := by
   rcases Nat.eq_zero_or_pos (j - l.length) with h0 | h0
   ·exact h0
   ·rw [List.getElem?_eq_none (by simp; omega)] at hp; cases hp
  rw [this] at hp
  simp at hp
  subst hp
  refine ⟨hk, hi, hn, fun j' p' hj' hp' => ?_⟩
  rw [List.getElem?_append_left (by omega)] at hp'
  have := (h j' p' hp').2.1
  simp only; omega
theorem toksP_rise (s : List UInt8) : ∀ (f i : Nat) (acc : List (Tk × Nat)), s.length + 1 - i ≤ f → i ≤ s.length → Rise s.length i acc →
  ((toksP s f i acc).2.2 ≠ 0 → (toksP s f i acc).1 = []) ∧ ((toksP s f i acc).2.2 = 0 → (toksP s f i acc).2.1 = 0 ∧ ∃ l, (toksP s f i acc).1 = l ++ [((⟨0, [], 0⟩ : Tk), s.length)] ∧ Rise s.length s.length l) := by
 intro f
 induction f with
 | zero => intro i acc hf hi; omega
 | succ f ih =>
  intro i acc hf hi hr
  have hsk := skipM_le false (s.drop i)
  rw [List.length_drop] at hsk
  have htl := tokP_len (s.drop (i + skipM false (s.drop i)))
  rw [List.length_drop] at htl
  simp only [toksP]
  split
  ·rename_i he; exact ⟨fun _ => rfl, fun e => absurd e he⟩
  ·rename_i he
   obtain ⟨h1, h2, h3⟩ := htl (by simpa using he)
   split
   ·rename_i hk
    refine ⟨fun e => absurd rfl e, fun _ => ⟨rfl, acc, ?_, fun j p hp => ?_⟩⟩
    ·have hd := h2 hk
     have : i + skipM false (s.drop i) = s.length := by
      have := congrArg List.length hd
      simp at this; omega
     rw [this, List.drop_length]; simp [tokP]
    ·obtain ⟨q1, q2, q3, q4⟩ := hr j p hp
     exact ⟨q1, by omega, q3, q4⟩
   ·rename_i hk
    have hne : s.drop (i + skipM false (s.drop i)) ≠ [] := by
     intro e0; rw [e0] at hk; simp [tokP] at hk
    have hlt : i + skipM false (s.drop i) < s.length := by
     rcases Nat.lt_or_ge (i + skipM false (s.drop i)) s.length with h' | h'
     ·exact h'
     ·exact absurd (List.drop_eq_nil_of_le h') hne
    have := h3 hne
    exact ih _ _ (by omega) (by omega) (hr.snoc _ _ hk (Nat.le_add_right _ _) hlt (by omega))
theorem Toks_rise (s : List UInt8) : ((Toks s).2.2 ≠ 0 → (Toks s).1 = []) ∧ ((Toks s).2.2 = 0 → (Toks s).2.1 = 0 ∧ ∃ l, (Toks s).1 = l ++ [((⟨0, [], 0⟩ : Tk), s.length)] ∧ Rise s.length s.length l) := by
 rw [Toks]
 split
 ·exact ⟨fun _ => rfl, fun e => by simp at e⟩
 ·exact toksP_rise s _ 0 [] (by omega) (Nat.zero_le _) (Rise.nil _ _)
end Go.Proofs.YtdohdncgjendkaaDoor
