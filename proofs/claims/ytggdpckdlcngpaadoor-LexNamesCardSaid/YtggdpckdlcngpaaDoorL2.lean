/- The reader: what it skips, what it runs over. -/
import Derived.Test.YtggdpckdlcngpaaDoorL1
set_option linter.unusedVariables false
set_option linter.unusedSimpArgs false
namespace Go.Proofs.YtggdpckdlcngpaaDoor
open Abs Go.RowKit

/-- The bytes between tokens; in a remark? -/
def skipM : Bool → List UInt8 → Nat
  | _, [] => 0
  | true, c :: l => if c = 10 then 1 + skipM false l else 1 + skipM true l
  | false, c :: l => if c = 32 ∨ c = 9 ∨ c = 10 then 1 + skipM false l else if c = 35 then 1 + skipM true l else 0

/-- A row of bytes ahead of a line's end. -/
def lineLen : List UInt8 → Nat
  | [] => 0
  | c :: l => if c = 10 then 0 else 1 + lineLen l

theorem skipM_line : ∀ l : List UInt8, skipM true l = lineLen l + skipM false (l.drop (lineLen l))
  | [] => rfl
  | c :: l => by
    by_cases h : c = 10
    · subst h; simp [skipM, lineLen]
    · have := skipM_line l
      simp only [skipM, lineLen, h, if_false]
      rw [this, Nat.add_comm 1 (lineLen l), List.drop_succ_cons]
      omega

theorem lineLen_index : ∀ l : List UInt8, Lib.indexByte l 10 = if lineLen l = l.length then -1 else (lineLen l : Int)
  | [] => rfl
  | c :: l => by
    have ih := lineLen_index l
    by_cases h : c = 10
    · subst h; simp [Lib.indexByte, lineLen]
    · have h' : (c == 10) = false := by simpa using h
      simp only [Lib.indexByte, h', Bool.false_eq_true, if_false, lineLen, h, List.length_cons]
      rw [ih]
      by_cases hl : lineLen l = l.length
      · simp [hl]; omega
      · have : ¬ 1 + lineLen l = l.length + 1 := by omega
        simp only [hl, this, if_false]
        have : ¬ ((lineLen l : Int) == -1) = true := by simp
        rw [if_neg this, Int.natCast_add, Int.add_comm]
        simp

theorem lineLen_le : ∀ l : List UInt8, lineLen l ≤ l.length
  | [] => Nat.le_refl _
  | c :: l => by
    have := lineLen_le l
    simp only [lineLen, List.length_cons]
    split <;> omega

theorem byte_of {c k : UInt8} {n : Int} (h : decide ((c.toNat : Int) = n) = true) (hk : (k.toNat : Int) = n) : c = k := by
  rw [← hk, decide_eq_true_eq] at h
  rwa [byte_eq] at h
theorem byte_ne {c k : UInt8} {n : Int} (h : decide ((c.toNat : Int) = n) = false) (hk : (k.toNat : Int) = n) : c ≠ k := by
  rw [← hk, decide_eq_false_iff_not] at h
  rwa [byte_eq] at h

def rdr (s : List UInt8) (i : Nat) : AObj := .cells [.str s, .int .i64 (i : Int)]

theorem skip_call (s : List UInt8) (hs : s.length < 4294967281) (r i : Nat) (hi : i ≤ s.length) (h : Hp) (c : Nat) (d : List (Nat × List AV)) (hr : h r = some (rdr s i)) :
    Does X 22 [.ptr r 0] ⟨h, c, d⟩ fun v s' => v = .tuple [] ∧ s' = ⟨upd h r (rdr s (i + skipM false (s.drop i))), c, d⟩ := by
  refine call_aw b22 rfl rfl rfl ?_; delta b22
  simp -dsimp -implicitDefEqProofs only [go_sem, Nat.reduceAdd, Nat.reduceEqDiff, reduceIte, reduceCtorEq, Nat.reduceLeDiff, Nat.reduceLT, Nat.reduceSub, Int.reduceEq, Int.reduceLT]
  let I : Nat → AEnv → ASt → Prop := fun m e st => ∃ j : Nat, m = s.length - j ∧ j ≤ s.length ∧ j + skipM false (s.drop j) = i + skipM false (s.drop i) ∧ e.get 0 = .ptr r 0 ∧ st = ⟨upd h r (rdr s j), c, []⟩
  refine LoopK_rule I (s.length - i) ⟨i, rfl, hi, rfl, rfl, by rw [upd_self _ _ _ hr]⟩ ?_
  rintro m e st ⟨j, rfl, hj, ht, h0, rfl⟩
  simp -dsimp -implicitDefEqProofs only [go_sem, Nat.reduceAdd, Nat.reduceEqDiff, reduceIte, reduceCtorEq, Nat.reduceLeDiff, Nat.reduceLT, Nat.reduceSub, Int.reduceEq, Int.reduceLT, h0, rdr]
  refine CondV_split (fun hc => ?_) fun hc => ?_
  · have hj' : j < s.length := by simpa using hc
    have hg := List.getElem?_eq_getElem hj'
    have hd : s.drop j = s[j] :: s.drop (j + 1) := List.drop_eq_getElem_cons hj'
    have next : ∀ (e' : AEnv), e'.get 0 = .ptr r 0 → skipM false (s.drop j) = 1 + skipM false (s.drop (j + 1)) → Again I .mk (s.length - j) e' ⟨upd h r (.cells [.str s, .int .i64 (IntKind.wrap .i64 ((j : Int) + 1))]), c, []⟩ := by
      intro e' he hk
      refine Again.of (s.length - (j + 1)) (by omega) ⟨j + 1, rfl, by omega, by omega, he, ?_⟩
      rw [wrap_i64 (by omega) (by omega)]; rfl
    simp -dsimp -implicitDefEqProofs only [go_sem, Nat.reduceAdd, Nat.reduceEqDiff, reduceIte, reduceCtorEq, Nat.reduceLeDiff, Nat.reduceLT, Nat.reduceSub, Int.reduceEq, Int.reduceLT, h0, rdr, strAt_nat, hg]
    refine CondV_split (fun h32 => ?_) fun h32 => ?_
    · simp -dsimp -implicitDefEqProofs only [go_sem, Nat.reduceAdd, Nat.reduceEqDiff, reduceIte, reduceCtorEq, Nat.reduceLeDiff, Nat.reduceLT, Nat.reduceSub, Int.reduceEq, Int.reduceLT, h0, rdr, overlay, h32]
      exact next _ (by exact h0) (by rw [hd, byte_of h32 (k := 32) rfl]; simp [skipM])
    · simp -dsimp -implicitDefEqProofs only [go_sem, Nat.reduceAdd, Nat.reduceEqDiff, reduceIte, reduceCtorEq, Nat.reduceLeDiff, Nat.reduceLT, Nat.reduceSub, Int.reduceEq, Int.reduceLT, h0, rdr, overlay, h32]
      refine CondV_split (fun h9 => ?_) fun h9 => ?_
      · simp -dsimp -implicitDefEqProofs only [go_sem, Nat.reduceAdd, Nat.reduceEqDiff, reduceIte, reduceCtorEq, Nat.reduceLeDiff, Nat.reduceLT, Nat.reduceSub, Int.reduceEq, Int.reduceLT, h0, rdr, overlay, h9]
        exact next _ (by exact h0) (by rw [hd, byte_of h9 (k := 9) rfl]; simp [skipM])
      · simp -dsimp -implicitDefEqProofs only [go_sem, Nat.reduceAdd, Nat.reduceEqDiff, reduceIte, reduceCtorEq, Nat.reduceLeDiff, Nat.reduceLT, Nat.reduceSub, Int.reduceEq, Int.reduceLT, h0, rdr, overlay, h9]
        refine CondV_split (fun h10 => ?_) fun h10 => ?_
        · simp -dsimp -implicitDefEqProofs only [go_sem, Nat.reduceAdd, Nat.reduceEqDiff, reduceIte, reduceCtorEq, Nat.reduceLeDiff, Nat.reduceLT, Nat.reduceSub, Int.reduceEq, Int.reduceLT, h0, rdr, overlay, h10]
          exact next _ (by exact h0) (by rw [hd, byte_of h10 (k := 10) rfl]; simp [skipM])
        · simp -dsimp -implicitDefEqProofs only [go_sem, Nat.reduceAdd, Nat.reduceEqDiff, reduceIte, reduceCtorEq, Nat.reduceLeDiff, Nat.reduceLT, Nat.reduceSub, Int.reduceEq, Int.reduceLT, h0, rdr, overlay, h10]
          refine CondV_split (fun h35 => ?_) fun h35 => ?_
          · have hl := lineLen_le (s.drop j)
            have hdl : (s.drop j).length = s.length - j := List.length_drop
            have hpos : 1 ≤ lineLen (s.drop j) := by
              rw [hd]; simp only [lineLen]; rw [if_neg (byte_ne h10 rfl)]; omega
            have h10' := byte_ne h10 (k := 10) rfl
            have h35' := byte_of h35 (k := 35) rfl
            have hskip : skipM false (s.drop j) = lineLen (s.drop j) + skipM false (s.drop (j + lineLen (s.drop j))) := by
              have h1 : skipM false (s.drop j) = skipM true (s.drop j) := by
                rw [hd]; simp [skipM, h35']
              rw [h1, skipM_line, List.drop_drop]
            simp -dsimp -implicitDefEqProofs only [go_sem, Nat.reduceAdd, Nat.reduceEqDiff, reduceIte, reduceCtorEq, Nat.reduceLeDiff, Nat.reduceLT, Nat.reduceSub, Int.reduceEq, Int.reduceLT, h0, rdr, overlay, h35, hj]
            refine DoesK_of (indexByte_call _ 10 _) ?_
            rintro v s' ⟨rfl, rfl⟩
            rw [lineLen_index, hdl]
            have fin : ∀ (e' : AEnv), e'.get 0 = .ptr r 0 → Again I .mk (s.length - j) e' ⟨upd h r (.cells [.str s, .int .i64 (IntKind.wrap .i64 ((j : Int) + (lineLen (s.drop j) : Int)))]), c, []⟩ := by
              intro e' he
              refine Again.of (s.length - (j + lineLen (s.drop j))) (by omega) ⟨j + lineLen (s.drop j), rfl, by omega, by omega, he, ?_⟩
              rw [wrap_i64 (by omega) (by omega)]; rfl
            by_cases hx : lineLen (s.drop j) = s.length - j
            · rw [if_pos hx]
              have h1 : IntKind.wrap .i64 ((s.length : Int) - (j : Int)) = (lineLen (s.drop j) : Int) := by rw [wrap_i64 (by omega) (by omega)]; omega
              simp -dsimp -implicitDefEqProofs only [go_sem, Nat.reduceAdd, Nat.reduceEqDiff, reduceIte, reduceCtorEq, Nat.reduceLeDiff, Nat.reduceLT, Nat.reduceSub, Int.reduceEq, Int.reduceLT, h0, rdr, overlay, h1]
              exact fin _ (by exact h0)
            · rw [if_neg hx]
              simp -dsimp -implicitDefEqProofs only [go_sem, Nat.reduceAdd, Nat.reduceEqDiff, reduceIte, reduceCtorEq, Nat.reduceLeDiff, Nat.reduceLT, Nat.reduceSub, Int.reduceEq, Int.reduceLT, h0, rdr]
              refine CondV_split (fun hf => absurd hf (by simp)) fun hf => ?_
              simp -dsimp -implicitDefEqProofs only [go_sem, Nat.reduceAdd, Nat.reduceEqDiff, reduceIte, reduceCtorEq, Nat.reduceLeDiff, Nat.reduceLT, Nat.reduceSub, Int.reduceEq, Int.reduceLT, h0, rdr]
              exact fin _ (by exact h0)
          · simp -dsimp -implicitDefEqProofs only [go_sem, Nat.reduceAdd, Nat.reduceEqDiff, reduceIte, reduceCtorEq, Nat.reduceLeDiff, Nat.reduceLT, Nat.reduceSub, Int.reduceEq, Int.reduceLT, h0, rdr, h35]
            have h1 := byte_ne h32 (k := 32) rfl
            have h2 := byte_ne h9 (k := 9) rfl
            have h3 := byte_ne h10 (k := 10) rfl
            have h4 := byte_ne h35 (k := 35) rfl
            have h5 : skipM false (s.drop j) = 0 := by rw [hd]; simp [skipM, h1, h2, h3, h4]
            rw [← ht, h5]
            rfl
  · simp -dsimp -implicitDefEqProofs only [go_sem, Nat.reduceAdd, Nat.reduceEqDiff, reduceIte, reduceCtorEq, Nat.reduceLeDiff, Nat.reduceLT, Nat.reduceSub, Int.reduceEq, Int.reduceLT, h0, rdr]
    have : j = s.length := by simp at hc; omega
    subst this
    have h5 : skipM false (s.drop s.length) = 0 := by rw [List.drop_length]; rfl
    rw [← ht, h5]
    rfl

end Go.Proofs.YtggdpckdlcngpaaDoor
