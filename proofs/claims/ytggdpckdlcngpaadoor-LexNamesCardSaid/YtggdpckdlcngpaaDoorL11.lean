/- Numbers. -/
import Derived.Test.YtggdpckdlcngpaaDoorAbs19
import Derived.Test.YtggdpckdlcngpaaDoorL10
set_option linter.unusedVariables false
set_option linter.unusedSimpArgs false
namespace Go.Proofs.YtggdpckdlcngpaaDoor
open Abs Go.RowKit

def digitB (c : UInt8) : Bool := isDigit c.toNat

theorem decV_drop : ∀ (l : List UInt8), decV 0 (l.dropWhile (· == 48)) = decV 0 l
  | [] => rfl
  | b :: l => by
    rw [List.dropWhile_cons]
    split
    · rename_i h
      have : b = 48 := by simpa using h
      subst this
      rw [decV_drop l]; rfl
    · rfl

theorem digits_take (l : List UInt8) : AllDigits (l.takeWhile digitB) := by
  intro b hb
  have := List.all_takeWhile (p := digitB) (l := l)
  have := List.all_eq_true.1 this b hb
  simp [digitB, isDigit] at this
  omega

theorem dropWhile_head {p : UInt8 → Bool} : ∀ {l : List UInt8} {x : UInt8} {r : List UInt8}, l.dropWhile p = x :: r → p x = false
  | [], _, _, h => by simp at h
  | b :: l, x, r, h => by
    rw [List.dropWhile_cons] at h
    split at h
    · exact dropWhile_head h
    · rename_i hb
      injection h with h1 h2
      subst h1
      simpa using hb

theorem number_call (s : List UInt8) (hs : s.length < 4294967281) (r t i : Nat) (hi : i ≤ s.length) (h : Hp) (c : Nat) (d : List (Nat × List AV)) (hr : h r = some (rdr s i)) (hrt : r ≠ t) (a : Nat) (ht : h t = some (tokO 0 [] 0 a)) (w : List UInt8)
    (hw : w = (s.drop i).takeWhile digitB) :
    Does X 25 [.ptr r 0, .ptr t 0] ⟨h, c, d⟩ fun v s' => if decV 0 w ≤ 4611686018427387903 then v = .int .i64 0 ∧ s' = ⟨upd (upd h r (rdr s (i + w.length))) t (tokO 1 [] (decV 0 w : Nat) a), c, d⟩ else v = .int .i64 13 ∧ s' = ⟨upd h r (rdr s (i + w.length)), c, d⟩ := by
  refine call_aw b25 rfl rfl rfl ?_; delta b25
  simp -dsimp -implicitDefEqProofs only [go_sem, Nat.reduceAdd, Nat.reduceEqDiff, reduceIte, reduceCtorEq, Nat.reduceLeDiff, Nat.reduceLT, Nat.reduceSub, Int.reduceEq, Int.reduceLT]
  refine DoesK_of (run_call s hs digitB 24 (fun c st => digit_call _ st) r i hi _ _ _ hr) ?_
  rintro v s' ⟨rfl, rfl⟩
  have hsp : spanN digitB (s.drop i) = w.length := by rw [hw]; rfl
  have hu : ∀ h o, upd h r o t = h t := fun h o => upd_ne h o (Ne.symm hrt)
  rw [← hw, hsp]
  simp -dsimp -implicitDefEqProofs only [go_sem, Nat.reduceAdd, Nat.reduceEqDiff, reduceIte, reduceCtorEq, Nat.reduceLeDiff, Nat.reduceLT, Nat.reduceSub, Int.reduceEq, Int.reduceLT]
  refine DoesK_of (trim_call _ _) ?_
  rintro v s' ⟨rfl, rfl⟩
  have hwd : AllDigits w := by rw [hw]; exact digits_take _
  have hwl : w.length ≤ s.length := by rw [hw]; exact Nat.le_trans (List.takeWhile_prefix _).length_le (by simp)
  have key : ∀ S : List UInt8, S.length < 4294967281 → (∃ x l, S = x :: l ∧ (x = 48 → l = [])) → AllDigits S → decV 0 S = decV 0 w → Does X 40 [.str S] ⟨upd h r (rdr s (i + w.length)), c, []⟩ fun v s' => v = readV (decV 0 w) ∧ s' = ⟨upd h r (rdr s (i + w.length)), c, []⟩ := by
    rintro S hl ⟨x, l, hS, h0⟩ hd he
    rw [← he]
    exact read_call S x l hS hd h0 hl _
  simp -dsimp -implicitDefEqProofs only [go_sem, Nat.reduceAdd, Nat.reduceEqDiff, reduceIte, reduceCtorEq, Nat.reduceLeDiff, Nat.reduceLT, Nat.reduceSub, Int.reduceEq, Int.reduceLT]
  refine CondV_split (fun hc => ?_) fun hc => ?_
  · simp -dsimp -implicitDefEqProofs only [go_sem, Nat.reduceAdd, Nat.reduceEqDiff, reduceIte, reduceCtorEq, Nat.reduceLeDiff, Nat.reduceLT, Nat.reduceSub, Int.reduceEq, Int.reduceLT]
    have hc' : w.dropWhile (· == 48) = [] := by simpa using hc
    refine DoesK_of (key [48] (by decide) ⟨48, [], rfl, fun _ => rfl⟩ (by simp [AllDigits]) (by rw [← decV_drop w, hc']; rfl)) ?_
    rintro v s' ⟨rfl, rfl⟩
    by_cases hb : decV 0 w ≤ 4611686018427387903
    · simp -dsimp -implicitDefEqProofs only [go_sem, Nat.reduceAdd, Nat.reduceEqDiff, reduceIte, reduceCtorEq, Nat.reduceLeDiff, Nat.reduceLT, Nat.reduceSub, Int.reduceEq, Int.reduceLT, readV, hb, hu, ht, tokO, tokC]
    · simp -dsimp -implicitDefEqProofs only [go_sem, Nat.reduceAdd, Nat.reduceEqDiff, reduceIte, reduceCtorEq, Nat.reduceLeDiff, Nat.reduceLT, Nat.reduceSub, Int.reduceEq, Int.reduceLT, readV, hb, hu, ht, tokO, tokC]
  · simp -dsimp -implicitDefEqProofs only [go_sem, Nat.reduceAdd, Nat.reduceEqDiff, reduceIte, reduceCtorEq, Nat.reduceLeDiff, Nat.reduceLT, Nat.reduceSub, Int.reduceEq, Int.reduceLT]
    have hc' : w.dropWhile (· == 48) ≠ [] := by simpa using hc
    obtain ⟨x, l, hxl⟩ := List.exists_cons_of_ne_nil hc'
    refine DoesK_of (key _ (Nat.lt_of_le_of_lt (List.dropWhile_suffix _).length_le (by omega)) ⟨x, l, hxl, fun e => absurd (dropWhile_head hxl) (by simp [e])⟩ (fun b hb => hwd b ((List.dropWhile_suffix _).subset hb)) (decV_drop w)) ?_
    rintro v s' ⟨rfl, rfl⟩
    by_cases hb : decV 0 w ≤ 4611686018427387903
    · simp -dsimp -implicitDefEqProofs only [go_sem, Nat.reduceAdd, Nat.reduceEqDiff, reduceIte, reduceCtorEq, Nat.reduceLeDiff, Nat.reduceLT, Nat.reduceSub, Int.reduceEq, Int.reduceLT, readV, hb, hu, ht, tokO, tokC]
    · simp -dsimp -implicitDefEqProofs only [go_sem, Nat.reduceAdd, Nat.reduceEqDiff, reduceIte, reduceCtorEq, Nat.reduceLeDiff, Nat.reduceLT, Nat.reduceSub, Int.reduceEq, Int.reduceLT, readV, hb, hu, ht, tokO, tokC]

end Go.Proofs.YtggdpckdlcngpaaDoor
