/- What the functions on single bytes answer. The reader: what it skips, what it runs over. The reader: a run of bytes of a kind. Prefixes; the reader's signs. The reader's signs. Keys. Names. Noughts ahead are cut. Numbers are read. Numbers are read. Numbers. Bytes behind a backslash. Texts are read. One token. The next token. All tokens. The document's examples; the first bytes of a text; keys by the document. -/
import Derived.Test.YtdohdncgjendkaaDoorEE
import Derived.Test.YtdohdncgjendkaaDoorEC
set_option linter.unusedVariables false
set_option linter.unusedSimpArgs false
namespace Go.Proofs.YtdohdncgjendkaaDoor
open Abs Go.RowKit
def isDigit (c : Int) : Bool := decide (48 ≤ c) && decide (c ≤ 57)
def isSmall (c : Int) : Bool := decide (97 ≤ c) && decide (c ≤ 122)
def isLarge (c : Int) : Bool := decide (65 ≤ c) && decide (c ≤ 90)
def isInner (c : Int) : Bool := isSmall c || (isLarge c || (isDigit c || decide (c = 95)))
theorem digit_call (c : Int) (s : ASt) : Does X 40 [.int .u8 c] s fun v s' => v = .bool (isDigit c) ∧ s' = s := by
 obtain ⟨h, n, d⟩ := s
 refine call_aw b40 rfl rfl rfl ?_; delta b40
 simp -dsimp -implicitDefEqProofs only [go_sem, Nat.reduceAdd, Nat.reduceEqDiff, reduceIte, reduceCtorEq, Nat.reduceLeDiff, Nat.reduceLT, Nat.reduceSub, Int.reduceEq, Int.reduceLT]
 refine CondV_split (fun hc => ?_) fun hc => ?_ <;> simp -dsimp -implicitDefEqProofs only [go_sem, Nat.reduceAdd, Nat.reduceEqDiff, reduceIte, reduceCtorEq, Nat.reduceLeDiff, Nat.reduceLT, Nat.reduceSub, Int.reduceEq, Int.reduceLT, hc] <;> simp_all [isDigit] <;> (intros; omega)
theorem small_call (c : Int) (s : ASt) : Does X 43 [.int .u8 c] s fun v s' => v = .bool (isSmall c) ∧ s' = s := by
 obtain ⟨h, n, d⟩ := s
 refine call_aw b43 rfl rfl rfl ?_; delta b43
 simp -dsimp -implicitDefEqProofs only [go_sem, Nat.reduceAdd, Nat.reduceEqDiff, reduceIte, reduceCtorEq, Nat.reduceLeDiff, Nat.reduceLT, Nat.reduceSub, Int.reduceEq, Int.reduceLT]
 refine CondV_split (fun hc => ?_) fun hc => ?_ <;> simp -dsimp -implicitDefEqProofs only [go_sem, Nat.reduceAdd, Nat.reduceEqDiff, reduceIte, reduceCtorEq, Nat.reduceLeDiff, Nat.reduceLT, Nat.reduceSub, Int.reduceEq, Int.reduceLT, hc] <;> simp_all [isSmall] <;> (intros; omega)
theorem large_call (c : Int) (s : ASt) : Does X 44 [.int .u8 c] s fun v s' => v = .bool (isLarge c) ∧ s' = s := by
 obtain ⟨h, n, d⟩ := s
 refine call_aw b44 rfl rfl rfl ?_; delta b44
 simp -dsimp -implicitDefEqProofs only [go_sem, Nat.reduceAdd, Nat.reduceEqDiff, reduceIte, reduceCtorEq, Nat.reduceLeDiff, Nat.reduceLT, Nat.reduceSub, Int.reduceEq, Int.reduceLT]
 refine CondV_split (fun hc => ?_) fun hc => ?_ <;> simp -dsimp -implicitDefEqProofs only [go_sem, Nat.reduceAdd, Nat.reduceEqDiff, reduceIte, reduceCtorEq, Nat.reduceLeDiff, Nat.reduceLT, Nat.reduceSub, Int.reduceEq, Int.reduceLT, hc] <;> simp_all [isLarge] <;> (intros; omega)
theorem rdigit_call (c : Int) (s : ASt) : Does X 21 [.int .u8 c] s fun v s' => v = .bool (isDigit c) ∧ s' = s := by
 obtain ⟨h, n, d⟩ := s
 refine call_aw b21 rfl rfl rfl ?_; delta b21
 simp -dsimp -implicitDefEqProofs only [go_sem, Nat.reduceAdd, Nat.reduceEqDiff, reduceIte, reduceCtorEq, Nat.reduceLeDiff, Nat.reduceLT, Nat.reduceSub, Int.reduceEq, Int.reduceLT]
 refine CondV_split (fun hc => ?_) fun hc => ?_ <;> simp -dsimp -implicitDefEqProofs only [go_sem, Nat.reduceAdd, Nat.reduceEqDiff, reduceIte, reduceCtorEq, Nat.reduceLeDiff, Nat.reduceLT, Nat.reduceSub, Int.reduceEq, Int.reduceLT, hc] <;> simp_all [isDigit] <;> (intros; omega)
theorem rsmall_call (c : Int) (s : ASt) : Does X 23 [.int .u8 c] s fun v s' => v = .bool (isSmall c) ∧ s' = s := by
 obtain ⟨h, n, d⟩ := s
 refine call_aw b23 rfl rfl rfl ?_; delta b23
 simp -dsimp -implicitDefEqProofs only [go_sem, Nat.reduceAdd, Nat.reduceEqDiff, reduceIte, reduceCtorEq, Nat.reduceLeDiff, Nat.reduceLT, Nat.reduceSub, Int.reduceEq, Int.reduceLT]
 refine CondV_split (fun hc => ?_) fun hc => ?_ <;> simp -dsimp -implicitDefEqProofs only [go_sem, Nat.reduceAdd, Nat.reduceEqDiff, reduceIte, reduceCtorEq, Nat.reduceLeDiff, Nat.reduceLT, Nat.reduceSub, Int.reduceEq, Int.reduceLT, hc] <;> simp_all [isSmall] <;> (intros; omega)
theorem rlarge_call (c : Int) (s : ASt) : Does X 24 [.int .u8 c] s fun v s' => v = .bool (isLarge c) ∧ s' = s := by
 obtain ⟨h, n, d⟩ := s
 refine call_aw b24 rfl rfl rfl ?_; delta b24
 simp -dsimp -implicitDefEqProofs only [go_sem, Nat.reduceAdd, Nat.reduceEqDiff, reduceIte, reduceCtorEq, Nat.reduceLeDiff, Nat.reduceLT, Nat.reduceSub, Int.reduceEq, Int.reduceLT]
 refine CondV_split (fun hc => ?_) fun hc => ?_ <;> simp -dsimp -implicitDefEqProofs only [go_sem, Nat.reduceAdd, Nat.reduceEqDiff, reduceIte, reduceCtorEq, Nat.reduceLeDiff, Nat.reduceLT, Nat.reduceSub, Int.reduceEq, Int.reduceLT, hc] <;> simp_all [isLarge] <;> (intros; omega)
theorem inner_call (c : Int) (s : ASt) : Does X 59 [.int .u8 c] s fun v s' => v = .bool (isInner c) ∧ s' = s := by
 obtain ⟨h, n, d⟩ := s
 refine call_aw b59 rfl rfl rfl ?_; delta b59
 simp -dsimp -implicitDefEqProofs only [go_sem, Nat.reduceAdd, Nat.reduceEqDiff, reduceIte, reduceCtorEq, Nat.reduceLeDiff, Nat.reduceLT, Nat.reduceSub, Int.reduceEq, Int.reduceLT]
 refine DoesK_of (small_call _ _) ?_
 rintro v s' ⟨rfl, rfl⟩
 simp -dsimp -implicitDefEqProofs only [go_sem, Nat.reduceAdd, Nat.reduceEqDiff, reduceIte, reduceCtorEq, Nat.reduceLeDiff, Nat.reduceLT, Nat.reduceSub, Int.reduceEq, Int.reduceLT]
 refine CondV_split (fun hc => ?_) fun hc => ?_
 ·have h1 : isSmall c = false := by simpa using hc
  simp -dsimp -implicitDefEqProofs only [go_sem, Nat.reduceAdd, Nat.reduceEqDiff, reduceIte, reduceCtorEq, Nat.reduceLeDiff, Nat.reduceLT, Nat.reduceSub, Int.reduceEq, Int.reduceLT, h1]
  refine DoesK_of (large_call _ _) ?_
  rintro v s' ⟨rfl, rfl⟩
  simp -dsimp -implicitDefEqProofs only [go_sem, Nat.reduceAdd, Nat.reduceEqDiff, reduceIte, reduceCtorEq, Nat.reduceLeDiff, Nat.reduceLT, Nat.reduceSub, Int.reduceEq, Int.reduceLT]
  refine CondV_split (fun hc => ?_) fun hc => ?_
  ·have h2 : isLarge c = false := by simpa using hc
   simp -dsimp -implicitDefEqProofs only [go_sem, Nat.reduceAdd, Nat.reduceEqDiff, reduceIte, reduceCtorEq, Nat.reduceLeDiff, Nat.reduceLT, Nat.reduceSub, Int.reduceEq, Int.reduceLT, h1, h2]
   refine DoesK_of (digit_call _ _) ?_
   rintro v s' ⟨rfl, rfl⟩
   simp -dsimp -implicitDefEqProofs only [go_sem, Nat.reduceAdd, Nat.reduceEqDiff, reduceIte, reduceCtorEq, Nat.reduceLeDiff, Nat.reduceLT, Nat.reduceSub, Int.reduceEq, Int.reduceLT]
   refine CondV_split (fun hc => ?_) fun hc => ?_
   ·have h3 : isDigit c = false := by simpa using hc
    simp -dsimp -implicitDefEqProofs only [go_sem, Nat.reduceAdd, Nat.reduceEqDiff, reduceIte, reduceCtorEq, Nat.reduceLeDiff, Nat.reduceLT, Nat.reduceSub, Int.reduceEq, Int.reduceLT, h1, h2, h3]
    simp [isInner, h1, h2, h3]
   ·have h3 : isDigit c = true := by simpa using hc
    simp -dsimp -implicitDefEqProofs only [go_sem, Nat.reduceAdd, Nat.reduceEqDiff, reduceIte, reduceCtorEq, Nat.reduceLeDiff, Nat.reduceLT, Nat.reduceSub, Int.reduceEq, Int.reduceLT, h1, h2, h3]
    simp [isInner, h1, h2, h3]
  ·have h2 : isLarge c = true := by simpa using hc
   simp -dsimp -implicitDefEqProofs only [go_sem, Nat.reduceAdd, Nat.reduceEqDiff, reduceIte, reduceCtorEq, Nat.reduceLeDiff, Nat.reduceLT, Nat.reduceSub, Int.reduceEq, Int.reduceLT, h1, h2]
   simp [isInner, h1, h2]
 ·have h1 : isSmall c = true := by simpa using hc
  simp -dsimp -implicitDefEqProofs only [go_sem, Nat.reduceAdd, Nat.reduceEqDiff, reduceIte, reduceCtorEq, Nat.reduceLeDiff, Nat.reduceLT, Nat.reduceSub, Int.reduceEq, Int.reduceLT, h1]
  simp [isInner, h1]
/-- The bytes between tokens; in a remark? -/
def skipM : Bool → List UInt8 → Nat
 | _, [] => 0
 | true, c :: l => if c = 10 then 1 + skipM false l else 1 + skipM true l
 | false, c :: l => if c = 32 ∨ c = 9 ∨ c = 10 then 1 + skipM false l else if c = 35 then 1 + skipM true l else 0
/-- A row of bytes ahead of a line's end. -/
def lineLen : List UInt8 → Nat
 | [] => 0
 | c :: l => if c = 10 then 0 else 1 + lineLen l
theorem skipM_line : ∀ l : List UInt8, skipM true l = lineLen l + skipM false (l.drop (lineLen l))
 | [] => rfl
 | c :: l => by
  by_cases h : c = 10
  ·subst h; simp [skipM, lineLen]
  ·have := skipM_line l
   simp only [skipM, lineLen, h, if_false]
   rw [this, Nat.add_comm 1 (lineLen l), List.drop_succ_cons]
   omega
theorem lineLen_index : ∀ l : List UInt8, Lib.indexByte l 10 = if lineLen l = l.length then -1 else (lineLen l : Int)
 | [] => rfl
 | c :: l => by
  have ih := lineLen_index l
  by_cases h : c = 10
  ·subst h; simp [Lib.indexByte, lineLen]
  ·have h' : (c == 10) = false := by simpa using h
   simp only [Lib.indexByte, h', Bool.false_eq_true, if_false, lineLen, h, List.length_cons]
   rw [ih]
   by_cases hl : lineLen l = l.length
   ·simp [hl]; omega
   ·have : ¬ 1 + lineLen l = l.length + 1 := by omega
    simp only [hl, this, if_false]
    have : ¬ ((lineLen l : Int) == -1) = true := by simp
    rw [if_neg this, Int.natCast_add, Int.add_comm]
    simp
theorem lineLen_le : ∀ l : List UInt8, lineLen l ≤ l.length
 | [] => Nat.le_refl _
 | c :: l => by
  have := lineLen_le l
  simp only [lineLen, List.length_cons]
  split <;> omega
theorem byte_of {c k : UInt8} {n : Int} (h : decide ((c.toNat : Int) = n) = true) (hk : (k.toNat : Int) = n) : c = k := by
 rw [← hk, decide_eq_true_eq] at h
 rwa [byte_eq] at h
theorem byte_ne {c k : UInt8} {n : Int} (h : decide ((c.toNat : Int) = n) = false) (hk : (k.toNat : Int) = n) : c ≠ k := by
 rw [← hk, decide_eq_false_iff_not] at h
 rwa [byte_eq] at h
def rdr (s : List UInt8) (i : Nat) : AObj := .cells [.str s, .int .i64 (i : Int)]
theorem skip_call (s : List UInt8) (hs : s.length < 4294967281) (r i : Nat) (hi : i ≤ s.length) (h : Hp) (c : Nat) (d : List (Nat × List AV)) (hr : h r = some (rdr s i)) :
  Does X 38 [.ptr r 0] ⟨h, c, d⟩ fun v s' => v = .tuple [] ∧ s' = ⟨upd h r (rdr s (i + skipM false (s.drop i))), c, d⟩ := by
 refine call_aw b38 rfl rfl rfl ?_; delta b38
 simp -dsimp -implicitDefEqProofs only [go_sem, Nat.reduceAdd, Nat.reduceEqDiff, reduceIte, reduceCtorEq, Nat.reduceLeDiff, Nat.reduceLT, Nat.reduceSub, Int.reduceEq, Int.reduceLT]
 let I : Nat → AEnv → ASt → Prop := fun m e st => ∃ j : Nat, m = s.length - j ∧ j ≤ s.length ∧ j + skipM false (s.drop j) = i + skipM false (s.drop i) ∧ e.get 0 = .ptr r 0 ∧ st = ⟨upd h r (rdr s j), c, []⟩
 refine LoopK_rule I (s.length - i) ⟨i, rfl, hi, rfl, rfl, by rw [upd_self _ _ _ hr]⟩ ?_
 rintro m e st ⟨j, rfl, hj, ht, h0, rfl⟩
 simp -dsimp -implicitDefEqProofs only [go_sem, Nat.reduceAdd, Nat.reduceEqDiff, reduceIte, reduceCtorEq, Nat.reduceLeDiff, Nat.reduceLT, Nat.reduceSub, Int.reduceEq, Int.reduceLT, h0, rdr]
 refine CondV_split (fun hc => ?_) fun hc => ?_
 ·have hj' : j < s.length := by simpa using hc
  have hg := List.getElem?_eq_getElem hj'
  have hd : s.drop j = s[j] :: s.drop (j + 1) := List.drop_eq_getElem_cons hj'
  have next : ∀ (e' : AEnv), e'.get 0 = .ptr r 0 → skipM false (s.drop j) = 1 + skipM false (s.drop (j + 1)) → Again I .mk (s.length - j) e' ⟨upd h r (.cells [.str s, .int .i64 (IntKind.wrap .i64 ((j : Int) + 1))]), c, []⟩ := by
   intro e' he hk
   refine Again.of (s.length - (j + 1)) (by omega) ⟨j + 1, rfl, by omega, by omega, he, ?_⟩
   rw [wrap_i64 (by omega) (by omega)]; rfl
  simp -dsimp -implicitDefEqProofs only [go_sem, Nat.reduceAdd, Nat.reduceEqDiff, reduceIte, reduceCtorEq, Nat.reduceLeDiff, Nat.reduceLT, Nat.reduceSub, Int.reduceEq, Int.reduceLT, h0, rdr, strAt_nat, hg]
  refine CondV_split (fun h32 => ?_) fun h32 => ?_
  ·simp -dsimp -implicitDefEqProofs only [go_sem, Nat.reduceAdd, Nat.reduceEqDiff, reduceIte, reduceCtorEq, Nat.reduceLeDiff, Nat.reduceLT, Nat.reduceSub, Int.reduceEq, Int.reduceLT, h0, rdr, overlay, h32]
   exact next _ (by exact h0) (by rw [hd, byte_of h32 (k := 32) rfl]; simp [skipM])
  ·simp -dsimp -implicitDefEqProofs only [go_sem, Nat.reduceAdd, Nat.reduceEqDiff, reduceIte, reduceCtorEq, Nat.reduceLeDiff, Nat.reduceLT, Nat.reduceSub, Int.reduceEq, Int.reduceLT, h0, rdr, overlay, h32]
   refine CondV_split (fun h9 => ?_) fun h9 => ?_
   ·simp -dsimp -implicitDefEqProofs only [go_sem, Nat.reduceAdd, Nat.reduceEqDiff, reduceIte, reduceCtorEq, Nat.reduceLeDiff, Nat.reduceLT, Nat.reduceSub, Int.reduceEq, Int.reduceLT, h0, rdr, overlay, h9]
    exact next _ (by exact h0) (by rw [hd, byte_of h9 (k := 9) rfl]; simp [skipM])
   ·simp -dsimp -implicitDefEqProofs only [go_sem, Nat.reduceAdd, Nat.reduceEqDiff, reduceIte, reduceCtorEq, Nat.reduceLeDiff, Nat.reduceLT, Nat.reduceSub, Int.reduceEq, Int.reduceLT, h0, rdr, overlay, h9]
    refine CondV_split (fun h10 => ?_) fun h10 => ?_
    ·simp -dsimp -implicitDefEqProofs only [go_sem, Nat.reduceAdd, Nat.reduceEqDiff, reduceIte, reduceCtorEq, Nat.reduceLeDiff, Nat.reduceLT, Nat.reduceSub, Int.reduceEq, Int.reduceLT, h0, rdr, overlay, h10]
     exact next _ (by exact h0) (by rw [hd, byte_of h10 (k := 10) rfl]; simp [skipM])
    ·simp -dsimp -implicitDefEqProofs only [go_sem, Nat.reduceAdd, Nat.reduceEqDiff, reduceIte, reduceCtorEq, Nat.reduceLeDiff, Nat.reduceLT, Nat.reduceSub, Int.reduceEq, Int.reduceLT, h0, rdr, overlay, h10]
     refine CondV_split (fun h35 => ?_) fun h35 => ?_
     ·have hl := lineLen_le (s.drop j)
      have hdl : (s.drop j).length = s.length - j := List.length_drop
      have hpos : 1 ≤ lineLen (s.drop j) := by
       rw [hd]; simp only [lineLen]; rw [if_neg (byte_ne h10 rfl)]; omega
      have h10' := byte_ne h10 (k := 10) rfl
      have h35' := byte_of h35 (k := 35) rfl
      have hskip : skipM false (s.drop j) = lineLen (s.drop j) + skipM false (s.drop (j + lineLen (s.drop j))) := by
       have h1 : skipM false (s.drop j) = skipM true (s.drop j) := by
        rw [hd]; simp [skipM, h35']
       rw [h1, skipM_line, List.drop_drop]
      simp -dsimp -implicitDefEqProofs only [go_sem, Nat.reduceAdd, Nat.reduceEqDiff, reduceIte, reduceCtorEq, Nat.reduceLeDiff, Nat.reduceLT, Nat.reduceSub, Int.reduceEq, Int.reduceLT, h0, rdr, overlay, h35, hj]
      refine DoesK_of (indexByte_call _ 10 _) ?_
      rintro v s' ⟨rfl, rfl⟩
      rw [lineLen_index, hdl]
      have fin : ∀ (e' : AEnv), e'.get 0 = .ptr r 0 → Again I .mk (s.length - j) e' ⟨upd h r (.cells [.str s, .int .i64 (IntKind.wrap .i64 ((j : Int) + (lineLen (s.drop j) : Int)))]), c, []⟩ := by
       intro e' he
       refine Again.of (s.length - (j + lineLen (s.drop j))) (by omega) ⟨j + lineLen (s.drop j), rfl, by omega, by omega, he, ?_⟩
       rw [wrap_i64 (by omega) (by omega)]; rfl
      by_cases hx : lineLen (s.drop j) = s.length - j
      ·rw [if_pos hx]
       have h1 : IntKind.wrap .i64 ((s.length : Int) - (j : Int)) = (lineLen (s.drop j) : Int) := by rw [wrap_i64 (by omega) (by omega)]; omega
       simp -dsimp -implicitDefEqProofs only [go_sem, Nat.reduceAdd, Nat.reduceEqDiff, reduceIte, reduceCtorEq, Nat.reduceLeDiff, Nat.reduceLT, Nat.reduceSub, Int.reduceEq, Int.reduceLT, h0, rdr, overlay, h1]
       exact fin _ (by exact h0)
      ·rw [if_neg hx]
       simp -dsimp -implicitDefEqProofs only [go_sem, Nat.reduceAdd, Nat.reduceEqDiff, reduceIte, reduceCtorEq, Nat.reduceLeDiff, Nat.reduceLT, Nat.reduceSub, Int.reduceEq, Int.reduceLT, h0, rdr]
       refine CondV_split (fun hf => absurd hf (by simp)) fun hf => ?_
       simp -dsimp -implicitDefEqProofs only [go_sem, Nat.reduceAdd, Nat.reduceEqDiff, reduceIte, reduceCtorEq, Nat.reduceLeDiff, Nat.reduceLT, Nat.reduceSub, Int.reduceEq, Int.reduceLT, h0, rdr]
       exact fin _ (by exact h0)
     ·simp -dsimp -implicitDefEqProofs only [go_sem, Nat.reduceAdd, Nat.reduceEqDiff, reduceIte, reduceCtorEq, Nat.reduceLeDiff, Nat.reduceLT, Nat.reduceSub, Int.reduceEq, Int.reduceLT, h0, rdr, h35]
      have h1 := byte_ne h32 (k := 32) rfl
      have h2 := byte_ne h9 (k := 9) rfl
      have h3 := byte_ne h10 (k := 10) rfl
      have h4 := byte_ne h35 (k := 35) rfl
      have h5 : skipM false (s.drop j) = 0 := by rw [hd]; simp [skipM, h1, h2, h3, h4]
      rw [← ht, h5]
      rfl
 ·simp -dsimp -implicitDefEqProofs only [go_sem, Nat.reduceAdd, Nat.reduceEqDiff, reduceIte, reduceCtorEq, Nat.reduceLeDiff, Nat.reduceLT, Nat.reduceSub, Int.reduceEq, Int.reduceLT, h0, rdr]
  have : j = s.length := by simp at hc; omega
  subst this
  have h5 : skipM false (s.drop s.length) = 0 := by rw [List.drop_length]; rfl
  rw [← ht, h5]
  rfl
def spanN (p : UInt8 → Bool) (l : List UInt8) : Nat := (l.takeWhile p).length
theorem spanN_cons (p : UInt8 → Bool) (c : UInt8) (l : List UInt8) : spanN p (c :: l) = if p c = true then 1 + spanN p l else 0 := by
 unfold spanN
 rw [List.takeWhile_cons]
 split
 ·simp [Nat.add_comm]
 ·rfl
theorem spanN_le (p : UInt8 → Bool) (l : List UInt8) : spanN p l ≤ l.length := (List.takeWhile_prefix p).length_le
theorem spanN_take (p : UInt8 → Bool) (l : List UInt8) : l.take (spanN p l) = l.takeWhile p := (List.prefix_iff_eq_take.1 (List.takeWhile_prefix p)).symm
theorem run_call (s : List UInt8) (hs : s.length < 4294967281) (p : UInt8 → Bool) (f : Nat) (hp : ∀ (c : UInt8) (st : ASt), Does X f [.int .u8 c.toNat] st fun v s' => v = .bool (p c) ∧ s' = st) (r i : Nat) (hi : i ≤ s.length) (h : Hp) (c : Nat) (d : List (Nat × List AV)) (hr : h r = some (rdr s i)) :
  Does X 56 [.ptr r 0, .func f [] []] ⟨h, c, d⟩ fun v s' => v = .str ((s.drop i).takeWhile p) ∧ s' = ⟨upd h r (rdr s (i + spanN p (s.drop i))), c, d⟩ := by
 refine call_aw b56 rfl rfl rfl ?_; delta b56
 simp -dsimp -implicitDefEqProofs only [go_sem, Nat.reduceAdd, Nat.reduceEqDiff, reduceIte, reduceCtorEq, Nat.reduceLeDiff, Nat.reduceLT, Nat.reduceSub, Int.reduceEq, Int.reduceLT, hr, rdr]
 let I : Nat → AEnv → ASt → Prop := fun m e st => ∃ j : Nat, m = s.length - j ∧ j ≤ s.length ∧ j + spanN p (s.drop j) = i + spanN p (s.drop i) ∧ e.get 0 = .ptr r 0 ∧ e.get 1 = .func f [] [] ∧ e.get 5 = .int .i64 (i : Int) ∧ st = ⟨upd h r (rdr s j), c, []⟩
 refine LoopK_rule I (s.length - i) ⟨i, rfl, hi, rfl, rfl, rfl, rfl, by rw [upd_self _ _ _ hr]⟩ ?_
 rintro m e st ⟨j, rfl, hj, ht, h0, h1, h5, rfl⟩
 have last : j = i + spanN p (s.drop i) → List.drop i (s.take j) = (s.drop i).takeWhile p := by
  intro hj'
  subst hj'
  rw [← spanN_take, List.drop_take, Nat.add_sub_cancel_left]
 simp -dsimp -implicitDefEqProofs only [go_sem, Nat.reduceAdd, Nat.reduceEqDiff, reduceIte, reduceCtorEq, Nat.reduceLeDiff, Nat.reduceLT, Nat.reduceSub, Int.reduceEq, Int.reduceLT, h0, h1, h5, rdr]
 refine CondV_split (fun hc => ?_) fun hc => ?_
 ·have hj' : j < s.length := by simpa using hc
  have hg := List.getElem?_eq_getElem hj'
  have hd : s.drop j = s[j] :: s.drop (j + 1) := List.drop_eq_getElem_cons hj'
  have hc' : decide ((j : Int) < (s.length : Int)) = true := by simpa using hj'
  simp -dsimp -implicitDefEqProofs only [go_sem, Nat.reduceAdd, Nat.reduceEqDiff, reduceIte, reduceCtorEq, Nat.reduceLeDiff, Nat.reduceLT, Nat.reduceSub, Int.reduceEq, Int.reduceLT, h0, h1, h5, rdr, hc', strAt_nat, hg]
  refine DoesK_of (hp _ _) ?_
  rintro v s' ⟨rfl, rfl⟩
  simp -dsimp -implicitDefEqProofs only [go_sem, Nat.reduceAdd, Nat.reduceEqDiff, reduceIte, reduceCtorEq, Nat.reduceLeDiff, Nat.reduceLT, Nat.reduceSub, Int.reduceEq, Int.reduceLT, h0, h1, h5, rdr, hc']
  refine CondV_split (fun hq => ?_) fun hq => ?_
  ·simp -dsimp -implicitDefEqProofs only [go_sem, Nat.reduceAdd, Nat.reduceEqDiff, reduceIte, reduceCtorEq, Nat.reduceLeDiff, Nat.reduceLT, Nat.reduceSub, Int.reduceEq, Int.reduceLT, h0, h1, h5, rdr, hc', hq]
   refine Again.of (s.length - (j + 1)) (by omega) ⟨j + 1, rfl, by omega, ?_, h0, h1, h5, ?_⟩
   ·rw [← ht, hd, spanN_cons, if_pos hq]; omega
   ·rw [wrap_i64 (by omega) (by omega)]; rfl
  ·have he : j = i + spanN p (s.drop i) := by rw [← ht, hd, spanN_cons, if_neg (by simp [hq])]; rfl
   have hij : i ≤ j := by omega
   simp -dsimp -implicitDefEqProofs only [go_sem, Nat.reduceAdd, Nat.reduceEqDiff, reduceIte, reduceCtorEq, Nat.reduceLeDiff, Nat.reduceLT, Nat.reduceSub, Int.reduceEq, Int.reduceLT, h0, h1, h5, rdr, hc', hq, hij, hj, last he]
   rw [← he]
 ·have hj' : j = s.length := by simp at hc; omega
  have hc' : decide ((j : Int) < (s.length : Int)) = false := by simpa using hc
  have he : j = i + spanN p (s.drop i) := by
   rw [← ht, hj', List.drop_length]; rfl
  have hij : i ≤ j := by omega
  simp -dsimp -implicitDefEqProofs only [go_sem, Nat.reduceAdd, Nat.reduceEqDiff, reduceIte, reduceCtorEq, Nat.reduceLeDiff, Nat.reduceLT, Nat.reduceSub, Int.reduceEq, Int.reduceLT, h0, h1, h5, rdr, hc', hij, hj, last he]
  rw [← he]
theorem hasPrefix0_call (s p : List UInt8) (st : ASt) : Does X 79 [.str s, .str p] st fun v s' => v = .bool (decide (s.take p.length = p)) ∧ s' = st := by
 obtain ⟨h, c, d⟩ := st
 refine call_aw b79 rfl rfl rfl ?_; delta b79
 simp -dsimp -implicitDefEqProofs only [go_sem, Nat.reduceAdd, Nat.reduceEqDiff, reduceIte, reduceCtorEq, Nat.reduceLeDiff, Nat.reduceLT, Nat.reduceSub, Int.reduceEq, Int.reduceLT]
 refine CondV_split (fun hc => ?_) fun hc => ?_
 ·have hl : p.length ≤ s.length := by simp at hc; omega
  simp -dsimp -implicitDefEqProofs only [go_sem, Nat.reduceAdd, Nat.reduceEqDiff, reduceIte, reduceCtorEq, Nat.reduceLeDiff, Nat.reduceLT, Nat.reduceSub, Int.reduceEq, Int.reduceLT, hc, hl]
 ·have hl : ¬ p.length ≤ s.length := by simp at hc; omega
  simp -dsimp -implicitDefEqProofs only [go_sem, Nat.reduceAdd, Nat.reduceEqDiff, reduceIte, reduceCtorEq, Nat.reduceLeDiff, Nat.reduceLT, Nat.reduceSub, Int.reduceEq, Int.reduceLT, hc]
  have : ¬ s.take p.length = p := fun e => hl (by have := congrArg List.length e; simp at this; omega)
  simp [this]
theorem hasPrefix_call (s p : List UInt8) (st : ASt) : Does X 62 [.str s, .str p] st fun v s' => v = .bool (decide (s.take p.length = p)) ∧ s' = st := by
 obtain ⟨h, c, d⟩ := st
 refine call_aw b62 rfl rfl rfl ?_; delta b62
 simp -dsimp -implicitDefEqProofs only [go_sem, Nat.reduceAdd, Nat.reduceEqDiff, reduceIte, reduceCtorEq, Nat.reduceLeDiff, Nat.reduceLT, Nat.reduceSub, Int.reduceEq, Int.reduceLT]
 refine DoesK_of (hasPrefix0_call _ _ _) ?_
 rintro v s' ⟨rfl, rfl⟩
 simp -dsimp -implicitDefEqProofs only [go_sem, Nat.reduceAdd, Nat.reduceEqDiff, reduceIte, reduceCtorEq, Nat.reduceLeDiff, Nat.reduceLT, Nat.reduceSub, Int.reduceEq, Int.reduceLT]
theorem odd_call (a b : AV) (st : ASt) : Does X 39 [a, b] st fun v s' => v = .int .i64 10 ∧ s' = st := by
 obtain ⟨h, c, d⟩ := st
 refine call_aw b39 rfl rfl rfl ?_; delta b39
 simp -dsimp -implicitDefEqProofs only [go_sem, Nat.reduceAdd, Nat.reduceEqDiff, reduceIte, reduceCtorEq, Nat.reduceLeDiff, Nat.reduceLT, Nat.reduceSub, Int.reduceEq, Int.reduceLT]
/-- A token's cells. -/
def tokC (k : Int) (t : List UInt8) (n : Int) (a : Nat) : List AV := [.int .i64 k, .str t, .int .i64 n, .int .i64 (a : Int)]
def tokO (k : Int) (t : List UInt8) (n : Int) (a : Nat) : AObj := .cells (tokC k t n a)
theorem sign_call (s : List UInt8) (hs : s.length < 4294967281) (r t i : Nat) (hi : i < s.length) (h : Hp) (c : Nat) (d : List (Nat × List AV)) (hr : h r = some (rdr s i)) (hrt : r ≠ t) (a : Nat) (ht : h t = some (tokO 0 [] 0 a)) (n : Nat)
  (hn : n = if (s.drop i).take 2 = [45, 62] then 2 else 1) :
  Does X 47 [.ptr r 0, .ptr t 0] ⟨h, c, d⟩ fun v s' => v = .int .i64 0 ∧ s' = ⟨upd (upd h t (tokO 5 ((s.drop i).take n) 0 a)) r (rdr s (i + n)), c, d⟩ := by
 refine call_aw b47 rfl rfl rfl ?_; delta b47
 have hil : i ≤ s.length := by omega
 simp -dsimp -implicitDefEqProofs only [go_sem, Nat.reduceAdd, Nat.reduceEqDiff, reduceIte, reduceCtorEq, Nat.reduceLeDiff, Nat.reduceLT, Nat.reduceSub, Int.reduceEq, Int.reduceLT, hr, rdr, hil]
 refine DoesK_of (hasPrefix_call _ _ _) ?_
 rintro v s' ⟨rfl, rfl⟩
 have hin : i + n ≤ s.length := by
  rw [hn]; split
  ·rename_i h2
   have := congrArg List.length h2
   simp at this; omega
  ·omega
 have hcut : List.drop i (s.take (i + n)) = (s.drop i).take n := by rw [List.drop_take, Nat.add_sub_cancel_left]
 have hw : ∀ m : Int, m = (n : Int) → IntKind.wrap .i64 ((i : Int) + m) = ((i + n : Nat) : Int) := fun m hm => by rw [hm, wrap_i64 (by omega) (by omega)]; rfl
 have hu : ∀ h o, upd h t o r = h r := fun h o => upd_ne h o hrt
 have hle : i ≤ i + n := by omega
 simp -dsimp -implicitDefEqProofs only [go_sem, Nat.reduceAdd, Nat.reduceEqDiff, reduceIte, reduceCtorEq, Nat.reduceLeDiff, Nat.reduceLT, Nat.reduceSub, Int.reduceEq, Int.reduceLT]
 refine CondV_split (fun hc => ?_) fun hc => ?_
 ·have h2 : n = 2 := by rw [hn, if_pos (by simpa using hc)]
  have hw' : IntKind.wrap .i64 ((i : Int) + 2) = ((i + n : Nat) : Int) := hw 2 (by rw [h2]; rfl)
  simp -dsimp -implicitDefEqProofs only [go_sem, Nat.reduceAdd, Nat.reduceEqDiff, reduceIte, reduceCtorEq, Nat.reduceLeDiff, Nat.reduceLT, Nat.reduceSub, Int.reduceEq, Int.reduceLT, hr, rdr, hil, hw', hle, hin, hcut, ht, tokO, tokC, hu]
 ·have h2 : n = 1 := by rw [hn, if_neg (by simpa using hc)]
  have hw' : IntKind.wrap .i64 ((i : Int) + 1) = ((i + n : Nat) : Int) := hw 1 (by rw [h2]; rfl)
  simp -dsimp -implicitDefEqProofs only [go_sem, Nat.reduceAdd, Nat.reduceEqDiff, reduceIte, reduceCtorEq, Nat.reduceLeDiff, Nat.reduceLT, Nat.reduceSub, Int.reduceEq, Int.reduceLT, hr, rdr, hil, hw', hle, hin, hcut, ht, tokO, tokC, hu]
def keysText : List UInt8 := [32, 108, 101, 116, 32, 114, 101, 99, 32, 105, 110, 32, 102, 117, 110, 32, 105, 102, 32, 116, 104, 101, 110, 32, 101, 108, 115, 101, 32, 109, 97, 116, 99, 104, 32, 119, 105, 116, 104, 32, 101, 110, 100, 32, 116, 114, 121, 32, 112, 114, 105, 110, 116, 32, 114, 97, 105, 115, 101, 32, 115, 112, 97, 119, 110, 32, 97, 116, 111, 109, 105, 99, 97, 108, 108, 121, 32, 114, 101, 116, 114, 121, 32, 111, 114, 101, 108, 115, 101, 32, 116, 118, 97, 114, 32, 114, 101, 97, 100, 32, 119, 114, 105, 116, 101, 32, 116, 121, 112, 101, 32, 111, 102, 32, 100, 111, 32]
def keyP (s : List UInt8) : Bool := decide (s ≠ []) && (!Lib.contains s [32] && Lib.contains keysText ([32] ++ s ++ [32]))
theorem key_call (s : List UInt8) (hs : s.length < 4294967281) (st : ASt) : Does X 60 [.str s] st fun v s' => v = .bool (keyP s) ∧ s' = st := by
 obtain ⟨h, c, d⟩ := st
 refine call_aw b60 rfl rfl rfl ?_; delta b60
 simp -dsimp -implicitDefEqProofs only [go_sem, Nat.reduceAdd, Nat.reduceEqDiff, reduceIte, reduceCtorEq, Nat.reduceLeDiff, Nat.reduceLT, Nat.reduceSub, Int.reduceEq, Int.reduceLT]
 refine CondV_split (fun hc => ?_) fun hc => ?_
 ·simp -dsimp -implicitDefEqProofs only [go_sem, Nat.reduceAdd, Nat.reduceEqDiff, reduceIte, reduceCtorEq, Nat.reduceLeDiff, Nat.reduceLT, Nat.reduceSub, Int.reduceEq, Int.reduceLT, hc]
  refine DoesK_of (contains_call _ _ hs _) ?_
  rintro v s' ⟨rfl, rfl⟩
  simp -dsimp -implicitDefEqProofs only [go_sem, Nat.reduceAdd, Nat.reduceEqDiff, reduceIte, reduceCtorEq, Nat.reduceLeDiff, Nat.reduceLT, Nat.reduceSub, Int.reduceEq, Int.reduceLT, hc]
  refine CondV_split (fun hq => ?_) fun hq => ?_
  ·have hq' : (!Lib.contains s [32]) = true := by simpa using hq
   have hl : 1 + s.length ≤ 9223372036854775807 := by omega
   have hl2 : s.length ≤ 9223372036854775805 := by omega
   simp -dsimp -implicitDefEqProofs only [go_sem, Nat.reduceAdd, Nat.reduceEqDiff, reduceIte, reduceCtorEq, Nat.reduceLeDiff, Nat.reduceLT, Nat.reduceSub, Int.reduceEq, Int.reduceLT, hc, hq', List.length_append, hl, hl2]
   refine DoesK_of (contains_call keysText _ (by decide) _) ?_
   rintro v s' ⟨rfl, rfl⟩
   simp -dsimp -implicitDefEqProofs only [go_sem, Nat.reduceAdd, Nat.reduceEqDiff, reduceIte, reduceCtorEq, Nat.reduceLeDiff, Nat.reduceLT, Nat.reduceSub, Int.reduceEq, Int.reduceLT, hc, hq']
   simp only [keyP, hc, hq']
   rfl
  ·have hq' : (!Lib.contains s [32]) = false := by simpa using hq
   simp -dsimp -implicitDefEqProofs only [go_sem, Nat.reduceAdd, Nat.reduceEqDiff, reduceIte, reduceCtorEq, Nat.reduceLeDiff, Nat.reduceLT, Nat.reduceSub, Int.reduceEq, Int.reduceLT, hc, hq']
   simp [keyP, hq']
 ·simp -dsimp -implicitDefEqProofs only [go_sem, Nat.reduceAdd, Nat.reduceEqDiff, reduceIte, reduceCtorEq, Nat.reduceLeDiff, Nat.reduceLT, Nat.reduceSub, Int.reduceEq, Int.reduceLT, hc]
  simp only [keyP, hc]
  rfl
def innerB (c : UInt8) : Bool := isInner c.toNat
def largeB (c : UInt8) : Bool := isLarge c.toNat
def nameKind (w : List UInt8) : Int := match w with
 | [] => 0
 | c :: _ => if largeB c then 4 else if keyP w then 6 else 3
theorem name_call (s : List UInt8) (hs : s.length < 4294967281) (r t i : Nat) (hi : i < s.length) (h : Hp) (c : Nat) (d : List (Nat × List AV)) (hr : h r = some (rdr s i)) (hrt : r ≠ t) (a : Nat) (ht : h t = some (tokO 0 [] 0 a)) (w : List UInt8)
  (hw : w = (s.drop i).takeWhile innerB) (hne : w ≠ []) :
  Does X 45 [.ptr r 0, .ptr t 0] ⟨h, c, d⟩ fun v s' => if 16 < w.length then v = .int .i64 12 ∧ ∃ o, s' = ⟨upd (upd h r (rdr s (i + w.length))) t o, c, d⟩ ∧ o = tokO 0 w 0 a else v = .int .i64 0 ∧ s' = ⟨upd (upd h r (rdr s (i + w.length))) t (tokO (nameKind w) w 0 a), c, d⟩ := by
 refine call_aw b45 rfl rfl rfl ?_; delta b45
 simp -dsimp -implicitDefEqProofs only [go_sem, Nat.reduceAdd, Nat.reduceEqDiff, reduceIte, reduceCtorEq, Nat.reduceLeDiff, Nat.reduceLT, Nat.reduceSub, Int.reduceEq, Int.reduceLT]
 refine DoesK_of (run_call s hs innerB 59 (fun c st => inner_call _ st) r i (by omega) _ _ _ hr) ?_
 rintro v s' ⟨rfl, rfl⟩
 have hu : ∀ h o, upd h r o t = h t := fun h o => upd_ne h o (Ne.symm hrt)
 have hsp : spanN innerB (s.drop i) = w.length := by rw [hw]; rfl
 rw [← hw, hsp]
 obtain ⟨b, l, hbl⟩ : ∃ b l, w = b :: l := by cases w with | nil => exact absurd rfl hne | cons b l => exact ⟨b, l, rfl⟩
 simp -dsimp -implicitDefEqProofs only [go_sem, Nat.reduceAdd, Nat.reduceEqDiff, reduceIte, reduceCtorEq, Nat.reduceLeDiff, Nat.reduceLT, Nat.reduceSub, Int.reduceEq, Int.reduceLT, hu, ht, tokO, tokC]
 refine CondV_split (fun hc => ?_) fun hc => ?_
 ·simp -dsimp -implicitDefEqProofs only [go_sem, Nat.reduceAdd, Nat.reduceEqDiff, reduceIte, reduceCtorEq, Nat.reduceLeDiff, Nat.reduceLT, Nat.reduceSub, Int.reduceEq, Int.reduceLT, hu, ht, tokO, tokC]
  have : 16 < w.length := by simp at hc; omega
  rw [if_pos this]
  exact ⟨_, rfl, rfl⟩
 ·have hc' : ¬ 16 < w.length := by simp at hc; omega
  have h0 : strAt (.int .i64 0) (.str w) = some (.int .u8 b.toNat) := by rw [hbl]; rfl
  simp -dsimp -implicitDefEqProofs only [go_sem, Nat.reduceAdd, Nat.reduceEqDiff, reduceIte, reduceCtorEq, Nat.reduceLeDiff, Nat.reduceLT, Nat.reduceSub, Int.reduceEq, Int.reduceLT, hu, ht, tokO, tokC, h0, hc']
  refine DoesK_of (large_call _ _) ?_
  rintro v s' ⟨rfl, rfl⟩
  simp -dsimp -implicitDefEqProofs only [go_sem, Nat.reduceAdd, Nat.reduceEqDiff, reduceIte, reduceCtorEq, Nat.reduceLeDiff, Nat.reduceLT, Nat.reduceSub, Int.reduceEq, Int.reduceLT]
  refine CondV_split (fun hq => ?_) fun hq => ?_
  ·simp -dsimp -implicitDefEqProofs only [go_sem, Nat.reduceAdd, Nat.reduceEqDiff, reduceIte, reduceCtorEq, Nat.reduceLeDiff, Nat.reduceLT, Nat.reduceSub, Int.reduceEq, Int.reduceLT, hu, ht, tokO, tokC, h0, hc']
   rw [hbl]; simp [nameKind, largeB, hq]
  ·simp -dsimp -implicitDefEqProofs only [go_sem, Nat.reduceAdd, Nat.reduceEqDiff, reduceIte, reduceCtorEq, Nat.reduceLeDiff, Nat.reduceLT, Nat.reduceSub, Int.reduceEq, Int.reduceLT, hu, ht, tokO, tokC, h0]
   refine DoesK_of (key_call _ (by omega) _) ?_
   rintro v s' ⟨rfl, rfl⟩
   simp -dsimp -implicitDefEqProofs only [go_sem, Nat.reduceAdd, Nat.reduceEqDiff, reduceIte, reduceCtorEq, Nat.reduceLeDiff, Nat.reduceLT, Nat.reduceSub, Int.reduceEq, Int.reduceLT]
   refine CondV_split (fun hk => ?_) fun hk => ?_
   ·simp -dsimp -implicitDefEqProofs only [go_sem, Nat.reduceAdd, Nat.reduceEqDiff, reduceIte, reduceCtorEq, Nat.reduceLeDiff, Nat.reduceLT, Nat.reduceSub, Int.reduceEq, Int.reduceLT, hu, ht, tokO, tokC, h0, hc']
    rw [hbl] at hk ⊢; simp [nameKind, largeB, hq, hk]
   ·simp -dsimp -implicitDefEqProofs only [go_sem, Nat.reduceAdd, Nat.reduceEqDiff, reduceIte, reduceCtorEq, Nat.reduceLeDiff, Nat.reduceLT, Nat.reduceSub, Int.reduceEq, Int.reduceLT, hu, ht, tokO, tokC, h0, hc']
    rw [hbl] at hk ⊢; simp [nameKind, largeB, hq, hk]
theorem trimB_call (s : List UInt8) (b : UInt8) (st : ASt) : Does X 69 [.str s, .int .u8 b.toNat] st fun v s' => v = .str (s.dropWhile (· == b)) ∧ s' = st := by
 obtain ⟨h, c, d⟩ := st
 refine call_aw b69 rfl rfl rfl ?_; delta b69
 simp -dsimp -implicitDefEqProofs only [go_sem, Nat.reduceAdd, Nat.reduceEqDiff, reduceIte, reduceCtorEq, Nat.reduceLeDiff, Nat.reduceLT, Nat.reduceSub, Int.reduceEq, Int.reduceLT]
 let I : Nat → AEnv → ASt → Prop := fun m e st => ∃ l : List UInt8, m = l.length ∧ l.dropWhile (· == b) = s.dropWhile (· == b) ∧ e.get 0 = .str l ∧ e.get 1 = .int .u8 b.toNat ∧ st = ⟨h, c, []⟩
 refine LoopK_rule I s.length ⟨s, rfl, rfl, rfl, rfl, rfl⟩ ?_
 rintro m e st ⟨l, rfl, hl, h0, h1, rfl⟩
 simp -dsimp -implicitDefEqProofs only [go_sem, Nat.reduceAdd, Nat.reduceEqDiff, reduceIte, reduceCtorEq, Nat.reduceLeDiff, Nat.reduceLT, Nat.reduceSub, Int.reduceEq, Int.reduceLT, h0, h1]
 refine CondV_split (fun hc => ?_) fun hc => ?_
 ·obtain ⟨x, l', rfl⟩ : ∃ x l', l = x :: l' := by cases l with | nil => simp at hc | cons x l' => exact ⟨x, l', rfl⟩
  have hs : strAt (.int .i64 0) (.str (x :: l')) = some (.int .u8 x.toNat) := rfl
  have hc' : decide (((l'.length + 1 : Nat) : Int) > 0) = true := by simp
  simp -dsimp -implicitDefEqProofs only [go_sem, Nat.reduceAdd, Nat.reduceEqDiff, reduceIte, reduceCtorEq, Nat.reduceLeDiff, Nat.reduceLT, Nat.reduceSub, Int.reduceEq, Int.reduceLT, h0, h1, hs, hc']
  refine CondV_split (fun hq => ?_) fun hq => ?_
  ·have hx : x = b := by rw [decide_eq_true_eq, byte_eq] at hq; exact hq
   have hcut : cutStr (some (.int .i64 1)) none (.str (x :: l')) = some (.str l') := by simp [cutStr, boundsA, natOf]
   simp -dsimp -implicitDefEqProofs only [go_sem, Nat.reduceAdd, Nat.reduceEqDiff, reduceIte, reduceCtorEq, Nat.reduceLeDiff, Nat.reduceLT, Nat.reduceSub, Int.reduceEq, Int.reduceLT, h0, h1, hs, hc', hq, hcut]
   refine Again.of l'.length (by simp) ⟨l', rfl, ?_, rfl, h1, rfl⟩
   rw [← hl, List.dropWhile_cons, if_pos (by simp [hx])]
  ·have hx : x ≠ b := by rw [decide_eq_false_iff_not, byte_eq] at hq; exact hq
   simp -dsimp -implicitDefEqProofs only [go_sem, Nat.reduceAdd, Nat.reduceEqDiff, reduceIte, reduceCtorEq, Nat.reduceLeDiff, Nat.reduceLT, Nat.reduceSub, Int.reduceEq, Int.reduceLT, h0, h1, hs, hc', hq]
   rw [← hl, List.dropWhile_cons, if_neg (by simp [hx])]
 ·obtain rfl : l = [] := by cases l with | nil => rfl | cons x l' => (simp at hc)
  have hc0 : decide (((0 : Nat) : Int) > 0) = false := by decide
  simp -dsimp -implicitDefEqProofs only [go_sem, Nat.reduceAdd, Nat.reduceEqDiff, reduceIte, reduceCtorEq, Nat.reduceLeDiff, Nat.reduceLT, Nat.reduceSub, Int.reduceEq, Int.reduceLT, h0, h1, hc0]
  rw [← hl]; rfl
theorem trim_call (s : List UInt8) (st : ASt) : Does X 55 [.str s, .str [48]] st fun v s' => v = .str (s.dropWhile (· == 48)) ∧ s' = st := by
 obtain ⟨h, c, d⟩ := st
 refine call_aw b55 rfl rfl rfl ?_; delta b55
 have h48 : strAt (.int .i64 0) (.str [48]) = some (.int .u8 48) := rfl
 have e1 : decide (([48] : List UInt8) = []) = false := rfl
 have e2 : decide (((1 : Nat) : Int) = 1) = true := rfl
 have e3 : decide ((48 : Int) < 128) = true := rfl
 cases hs : s with
 | nil =>
  have e0 : decide (([] : List UInt8) = []) = true := rfl
  simp -dsimp -implicitDefEqProofs only [go_sem, Nat.reduceAdd, Nat.reduceEqDiff, reduceIte, reduceCtorEq, Nat.reduceLeDiff, Nat.reduceLT, Nat.reduceSub, Int.reduceEq, Int.reduceLT, e0]
  rfl
 | cons x l =>
  have e0 : decide ((x :: l) = []) = false := by simp
  simp -dsimp -implicitDefEqProofs only [go_sem, Nat.reduceAdd, Nat.reduceEqDiff, reduceIte, reduceCtorEq, Nat.reduceLeDiff, Nat.reduceLT, Nat.reduceSub, Int.reduceEq, Int.reduceLT, e0, e1, e2, e3, h48]
  refine DoesK_of (trimB_call _ 48 _) ?_
  rintro v s' ⟨rfl, rfl⟩
  simp -dsimp -implicitDefEqProofs only [go_sem, Nat.reduceAdd, Nat.reduceEqDiff, reduceIte, reduceCtorEq, Nat.reduceLeDiff, Nat.reduceLT, Nat.reduceSub, Int.reduceEq, Int.reduceLT]
theorem is_call (n : Int) (st : ASt) : Does X 74 [.int .i64 n] st fun v s' => v = .bool (decide (-4611686018427387904 ≤ n) && decide (n ≤ 4611686018427387903)) ∧ s' = st := by
 obtain ⟨h, c, d⟩ := st
 refine call_aw b74 rfl rfl rfl ?_; delta b74
 simp -dsimp -implicitDefEqProofs only [go_sem, Nat.reduceAdd, Nat.reduceEqDiff, reduceIte, reduceCtorEq, Nat.reduceLeDiff, Nat.reduceLT, Nat.reduceSub, Int.reduceEq, Int.reduceLT]
 refine CondV_split (fun hc => ?_) fun hc => ?_ <;> simp -dsimp -implicitDefEqProofs only [go_sem, Nat.reduceAdd, Nat.reduceEqDiff, reduceIte, reduceCtorEq, Nat.reduceLeDiff, Nat.reduceLT, Nat.reduceSub, Int.reduceEq, Int.reduceLT, hc] <;> simp_all <;> (intros; omega)
def AllDigits (s : List UInt8) : Prop := ∀ b ∈ s, 48 ≤ b.toNat ∧ b.toNat ≤ 57
theorem plain_call (S : List UInt8) (x : UInt8) (l : List UInt8) (hS : S = x :: l) (hd : AllDigits S) (h0 : x = 48 → l = []) (hs : S.length < 4294967281) (st : ASt) : Does X 73 [.str S] st fun v s' => v = .tuple [.str S, .bool false, .bool true] ∧ s' = st := by
 obtain ⟨h, c, d⟩ := st
 refine call_aw b73 rfl rfl rfl ?_; delta b73
 have hx := hd x (by rw [hS]; exact List.mem_cons_self)
 have hs0 : strAt (.int .i64 0) (.str S) = some (.int .u8 x.toNat) := by rw [hS]; rfl
 have hl1 : S.length = l.length + 1 := by rw [hS]; rfl
 have e0 : decide ((S.length : Int) > 0) = true := by simp; omega
 have eS : decide (S = []) = false := by rw [hS]; simp
 have e1 : decide ((x.toNat : Int) = 45) = false := by simp; omega
 simp -dsimp -implicitDefEqProofs only [go_sem, Nat.reduceAdd, Nat.reduceEqDiff, reduceIte, reduceCtorEq, Nat.reduceLeDiff, Nat.reduceLT, Nat.reduceSub, Int.reduceEq, Int.reduceLT, e0, hs0, e1, eS]
 refine CondV_split (fun hq => ?_) fun hq => ?_
 ·have hl := h0 (byte_of hq rfl)
  have e2 : decide ((S.length : Int) > 1) = false := by rw [hl1, hl]; rfl
  simp -dsimp -implicitDefEqProofs only [go_sem, Nat.reduceAdd, Nat.reduceEqDiff, reduceIte, reduceCtorEq, Nat.reduceLeDiff, Nat.reduceLT, Nat.reduceSub, Int.reduceEq, Int.reduceLT, e0, hs0, e1, hq, e2, eS]
  let I : Nat → AEnv → ASt → Prop := fun m e st => ∃ j : Nat, m = S.length - j ∧ j ≤ S.length ∧ e.get 0 = .str S ∧ e.get 34 = .int .i64 (S.length : Int) ∧ e.get 35 = .int .i64 (j : Int) ∧ e.get 5 = .bool false ∧ st = ⟨h, c, []⟩
  refine LoopK_rule I S.length ⟨0, rfl, Nat.zero_le _, rfl, rfl, rfl, rfl, rfl⟩ ?_
  rintro m e st ⟨j, rfl, hj, g0, g34, g35, g5, rfl⟩
  simp -dsimp -implicitDefEqProofs only [go_sem, Nat.reduceAdd, Nat.reduceEqDiff, reduceIte, reduceCtorEq, Nat.reduceLeDiff, Nat.reduceLT, Nat.reduceSub, Int.reduceEq, Int.reduceLT, g0, g34, g35, g5]
  refine CondV_split (fun hc => ?_) fun hc => ?_
  ·have hj' : j < S.length := by simpa using hc
   have hg := List.getElem?_eq_getElem hj'
   have hb := hd S[j] (List.getElem_mem hj')
   have f1 : decide ((S[j].toNat : Int) < 48) = false := by simp; omega
   have f2 : decide ((S[j].toNat : Int) > 57) = false := by simp; omega
   simp -dsimp -implicitDefEqProofs only [go_sem, Nat.reduceAdd, Nat.reduceEqDiff, reduceIte, reduceCtorEq, Nat.reduceLeDiff, Nat.reduceLT, Nat.reduceSub, Int.reduceEq, Int.reduceLT, g0, g34, g35, g5, strAt_nat, hg, f1, f2]
   refine Again.of (S.length - (j + 1)) (by omega) ⟨j + 1, rfl, by omega, g0, g34, ?_, g5, rfl⟩
   show AV.int .i64 (IntKind.wrap .i64 ((j : Int) + 1)) = _
   rw [wrap_i64 (by omega) (by omega)]; rfl
  ·simp -dsimp -implicitDefEqProofs only [go_sem, Nat.reduceAdd, Nat.reduceEqDiff, reduceIte, reduceCtorEq, Nat.reduceLeDiff, Nat.reduceLT, Nat.reduceSub, Int.reduceEq, Int.reduceLT, g0, g34, g35, g5]
 ·simp -dsimp -implicitDefEqProofs only [go_sem, Nat.reduceAdd, Nat.reduceEqDiff, reduceIte, reduceCtorEq, Nat.reduceLeDiff, Nat.reduceLT, Nat.reduceSub, Int.reduceEq, Int.reduceLT, e0, hs0, e1, hq, eS]
  let I : Nat → AEnv → ASt → Prop := fun m e st => ∃ j : Nat, m = S.length - j ∧ j ≤ S.length ∧ e.get 0 = .str S ∧ e.get 34 = .int .i64 (S.length : Int) ∧ e.get 35 = .int .i64 (j : Int) ∧ e.get 5 = .bool false ∧ st = ⟨h, c, []⟩
  refine LoopK_rule I S.length ⟨0, rfl, Nat.zero_le _, rfl, rfl, rfl, rfl, rfl⟩ ?_
  rintro m e st ⟨j, rfl, hj, g0, g34, g35, g5, rfl⟩
  simp -dsimp -implicitDefEqProofs only [go_sem, Nat.reduceAdd, Nat.reduceEqDiff, reduceIte, reduceCtorEq, Nat.reduceLeDiff, Nat.reduceLT, Nat.reduceSub, Int.reduceEq, Int.reduceLT, g0, g34, g35, g5]
  refine CondV_split (fun hc => ?_) fun hc => ?_
  ·have hj' : j < S.length := by simpa using hc
   have hg := List.getElem?_eq_getElem hj'
   have hb := hd S[j] (List.getElem_mem hj')
   have f1 : decide ((S[j].toNat : Int) < 48) = false := by simp; omega
   have f2 : decide ((S[j].toNat : Int) > 57) = false := by simp; omega
   simp -dsimp -implicitDefEqProofs only [go_sem, Nat.reduceAdd, Nat.reduceEqDiff, reduceIte, reduceCtorEq, Nat.reduceLeDiff, Nat.reduceLT, Nat.reduceSub, Int.reduceEq, Int.reduceLT, g0, g34, g35, g5, strAt_nat, hg, f1, f2]
   refine Again.of (S.length - (j + 1)) (by omega) ⟨j + 1, rfl, by omega, g0, g34, ?_, g5, rfl⟩
   show AV.int .i64 (IntKind.wrap .i64 ((j : Int) + 1)) = _
   rw [wrap_i64 (by omega) (by omega)]; rfl
  ·simp -dsimp -implicitDefEqProofs only [go_sem, Nat.reduceAdd, Nat.reduceEqDiff, reduceIte, reduceCtorEq, Nat.reduceLeDiff, Nat.reduceLT, Nat.reduceSub, Int.reduceEq, Int.reduceLT, g0, g34, g35, g5]
def decV : Nat → List UInt8 → Nat
 | v, [] => v
 | v, b :: l => decV (10 * v + (b.toNat - 48)) l
theorem wrap_u8 {n : Int} (h : 0 ≤ n) (h' : n ≤ 255) : IntKind.wrap .u8 n = n := by
 simp only [IntKind.wrap, IntKind.signed, IntKind.bits]
 first
  | (split <;> omega)
  | (simp; omega)
  | omega
theorem decV_ge : ∀ (l : List UInt8) (v : Nat), v ≤ decV v l
 | [], v => Nat.le_refl _
 | b :: l, v => Nat.le_trans (by omega) (decV_ge l (10 * v + (b.toNat - 48)))
/-- What Read answers. -/
def readV (v : Nat) : AV := if v ≤ 4611686018427387903 then .tuple [.int .i64 (v : Int), .int .i64 0] else .tuple [.int .i64 0, .int .i64 13]
theorem read_call (S : List UInt8) (x : UInt8) (l : List UInt8) (hS : S = x :: l) (hd : AllDigits S) (h0 : x = 48 → l = []) (hs : S.length < 4294967281) (st : ASt) : Does X 57 [.str S] st fun v s' => v = readV (decV 0 S) ∧ s' = st := by
 obtain ⟨h, c, d⟩ := st
 refine call_aw b57 rfl rfl rfl ?_; delta b57
 simp -dsimp -implicitDefEqProofs only [go_sem, Nat.reduceAdd, Nat.reduceEqDiff, reduceIte, reduceCtorEq, Nat.reduceLeDiff, Nat.reduceLT, Nat.reduceSub, Int.reduceEq, Int.reduceLT]
 refine DoesK_of (plain_call S x l hS hd h0 hs _) ?_
 rintro v s' ⟨rfl, rfl⟩
 simp -dsimp -implicitDefEqProofs only [go_sem, Nat.reduceAdd, Nat.reduceEqDiff, reduceIte, reduceCtorEq, Nat.reduceLeDiff, Nat.reduceLT, Nat.reduceSub, Int.reduceEq, Int.reduceLT]
 let I : Nat → AEnv → ASt → Prop := fun m e st => ∃ (j v : Nat), m = S.length - j ∧ j ≤ S.length ∧ v ≤ 4611686018427387904 ∧ decV v (S.drop j) = decV 0 S ∧ e.get 4 = .str S ∧ e.get 19 = .int .i64 (S.length : Int) ∧ e.get 20 = .int .i64 (j : Int) ∧ e.get 7 = .int .i64 (-(v : Int)) ∧ e.get 5 = .bool false ∧ st = ⟨h, c, []⟩
 refine LoopK_rule I S.length ⟨0, 0, rfl, Nat.zero_le _, Nat.zero_le _, rfl, rfl, rfl, rfl, rfl, rfl, rfl⟩ ?_
 rintro m e st ⟨j, v, rfl, hj, hv, hval, g4, g19, g20, g7, g5, rfl⟩
 simp -dsimp -implicitDefEqProofs only [go_sem, Nat.reduceAdd, Nat.reduceEqDiff, reduceIte, reduceCtorEq, Nat.reduceLeDiff, Nat.reduceLT, Nat.reduceSub, Int.reduceEq, Int.reduceLT, g4, g19, g20, g7, g5]
 refine CondV_split (fun hc => ?_) fun hc => ?_
 ·have hj' : j < S.length := by simpa using hc
  have hg := List.getElem?_eq_getElem hj'
  have hdr : S.drop j = S[j] :: S.drop (j + 1) := List.drop_eq_getElem_cons hj'
  have hb := hd S[j] (List.getElem_mem hj')
  have hval2 : decV (10 * v + (S[j].toNat - 48)) (S.drop (j + 1)) = decV 0 S := by rw [← hval, hdr]; rfl
  have hk : ∃ k : Nat, k = S[j].toNat - 48 ∧ k ≤ 9 := ⟨_, rfl, by omega⟩
  obtain ⟨k, hk, hk9⟩ := hk
  rw [← hk] at hval2
  have w1 : IntKind.wrap .u8 ((S[j].toNat : Int) - 48) = (k : Int) := by rw [wrap_u8 (by omega) (by omega)]; omega
  have w2 : IntKind.wrap .i64 (k : Int) = (k : Int) := wrap_i64 (by omega) (by omega)
  have w3 : IntKind.wrap .i64 (-4611686018427387904 + (k : Int)) = -4611686018427387904 + (k : Int) := wrap_i64 (by omega) (by omega)
  have w4 : IntKind.wrap .i64 ((-4611686018427387904 + (k : Int)).tdiv 10) = -((4611686018427387904 - k) / 10 : Nat) := by
   have : (-4611686018427387904 + (k : Int)).tdiv 10 = -((4611686018427387904 - k) / 10 : Nat) := by
    rw [show (-4611686018427387904 + (k : Int)) = -((4611686018427387904 - k : Nat) : Int) by omega, Int.neg_tdiv]
    rw [show (10 : Int) = ((10 : Nat) : Int) from rfl, ← Int.ofNat_tdiv]
   rw [this, wrap_i64 (by omega) (by omega)]
  simp -dsimp -implicitDefEqProofs only [go_sem, Nat.reduceAdd, Nat.reduceEqDiff, reduceIte, reduceCtorEq, Nat.reduceLeDiff, Nat.reduceLT, Nat.reduceSub, Int.reduceEq, Int.reduceLT, g4, g19, g20, g7, g5, strAt_nat, hg, w1, w2, w3, w4]
  refine CondV_split (fun hq => ?_) fun hq => ?_
  ·have hq' : (4611686018427387904 - k) / 10 < v := by have := hq; simp only [decide_eq_true_eq, decide_eq_false_iff_not] at this; omega
   simp -dsimp -implicitDefEqProofs only [go_sem, Nat.reduceAdd, Nat.reduceEqDiff, reduceIte, reduceCtorEq, Nat.reduceLeDiff, Nat.reduceLT, Nat.reduceSub, Int.reduceEq, Int.reduceLT, g4, g19, g20, g7, g5]
   have hbig : ¬ decV 0 S ≤ 4611686018427387903 := by
    have := decV_ge (S.drop (j + 1)) (10 * v + k)
    rw [hval2] at this
    omega
   simp [readV, hbig]
  ·have hq' : ¬ (4611686018427387904 - k) / 10 < v := by have := hq; simp only [decide_eq_true_eq, decide_eq_false_iff_not] at this; omega
   have w5 : IntKind.wrap .i64 (10 * -(v : Int)) = -((10 * v : Nat) : Int) := by rw [wrap_i64 (by omega) (by omega)]; omega
   have w6 : IntKind.wrap .i64 (-((10 * v : Nat) : Int) - (k : Int)) = -((10 * v + k : Nat) : Int) := by rw [wrap_i64 (by omega) (by omega)]; omega
   simp -dsimp -implicitDefEqProofs only [go_sem, Nat.reduceAdd, Nat.reduceEqDiff, reduceIte, reduceCtorEq, Nat.reduceLeDiff, Nat.reduceLT, Nat.reduceSub, Int.reduceEq, Int.reduceLT, g4, g19, g20, g7, g5, w5, w6]
   refine Again.of (S.length - (j + 1)) (by omega) ⟨j + 1, 10 * v + k, rfl, by omega, by omega, hval2, g4, g19, ?_, rfl, g5, rfl⟩
   show AV.int .i64 (IntKind.wrap .i64 ((j : Int) + 1)) = _
   rw [wrap_i64 (by omega) (by omega)]; rfl
 ·obtain rfl : j = S.length := by simp at hc; omega
  have hv2 : v = decV 0 S := by rw [← hval, List.drop_length]; rfl
  have w7 : IntKind.wrap .i64 (0 - -(v : Int)) = (v : Int) := by rw [wrap_i64 (by omega) (by omega)]; omega
  simp -dsimp -implicitDefEqProofs only [go_sem, Nat.reduceAdd, Nat.reduceEqDiff, reduceIte, reduceCtorEq, Nat.reduceLeDiff, Nat.reduceLT, Nat.reduceSub, Int.reduceEq, Int.reduceLT, g4, g19, g20, g7, g5, w7]
  refine DoesK_of (is_call _ _) ?_
  rintro r s' ⟨rfl, rfl⟩
  simp -dsimp -implicitDefEqProofs only [go_sem, Nat.reduceAdd, Nat.reduceEqDiff, reduceIte, reduceCtorEq, Nat.reduceLeDiff, Nat.reduceLT, Nat.reduceSub, Int.reduceEq, Int.reduceLT, g4, g19, g20, g7, g5, w7]
  refine CondV_split (fun hq => ?_) fun hq => ?_
  ·simp -dsimp -implicitDefEqProofs only [go_sem, Nat.reduceAdd, Nat.reduceEqDiff, reduceIte, reduceCtorEq, Nat.reduceLeDiff, Nat.reduceLT, Nat.reduceSub, Int.reduceEq, Int.reduceLT, g7]
   simp at hq
   have : ¬ decV 0 S ≤ 4611686018427387903 := by omega
   simp [readV, this]
  ·simp -dsimp -implicitDefEqProofs only [go_sem, Nat.reduceAdd, Nat.reduceEqDiff, reduceIte, reduceCtorEq, Nat.reduceLeDiff, Nat.reduceLT, Nat.reduceSub, Int.reduceEq, Int.reduceLT, g7]
   simp at hq
   have : decV 0 S ≤ 4611686018427387903 := by omega
   simp [readV, this, hv2]
def digitB (c : UInt8) : Bool := isDigit c.toNat
theorem decV_drop : ∀ (l : List UInt8), decV 0 (l.dropWhile (· == 48)) = decV 0 l
 | [] => rfl
 | b :: l => by
  rw [List.dropWhile_cons]
  split
  ·rename_i h
   have : b = 48 := by simpa using h
   subst this
   rw [decV_drop l]; rfl
  ·rfl
theorem digits_take (l : List UInt8) : AllDigits (l.takeWhile digitB) := by
 intro b hb
 have := List.all_takeWhile (p := digitB) (l := l)
 have := List.all_eq_true.1 this b hb
 simp [digitB, isDigit] at this
 omega
theorem dropWhile_head {p : UInt8 → Bool} : ∀ {l : List UInt8} {x : UInt8} {r : List UInt8}, l.dropWhile p = x :: r → p x = false
 | [], _, _, h => by simp at h
 | b :: l, x, r, h => by
  rw [List.dropWhile_cons] at h
  split at h
  ·exact dropWhile_head h
  ·rename_i hb
   injection h with h1 h2
   subst h1
   simpa using hb
theorem number_call (s : List UInt8) (hs : s.length < 4294967281) (r t i : Nat) (hi : i ≤ s.length) (h : Hp) (c : Nat) (d : List (Nat × List AV)) (hr : h r = some (rdr s i)) (hrt : r ≠ t) (a : Nat) (ht : h t = some (tokO 0 [] 0 a)) (w : List UInt8)
  (hw : w = (s.drop i).takeWhile digitB) :
  Does X 41 [.ptr r 0, .ptr t 0] ⟨h, c, d⟩ fun v s' => if decV 0 w ≤ 4611686018427387903 then v = .int .i64 0 ∧ s' = ⟨upd (upd h r (rdr s (i + w.length))) t (tokO 1 [] (decV 0 w : Nat) a), c, d⟩ else v = .int .i64 13 ∧ s' = ⟨upd h r (rdr s (i + w.length)), c, d⟩ := by
 refine call_aw b41 rfl rfl rfl ?_; delta b41
 simp -dsimp -implicitDefEqProofs only [go_sem, Nat.reduceAdd, Nat.reduceEqDiff, reduceIte, reduceCtorEq, Nat.reduceLeDiff, Nat.reduceLT, Nat.reduceSub, Int.reduceEq, Int.reduceLT]
 refine DoesK_of (run_call s hs digitB 40 (fun c st => digit_call _ st) r i hi _ _ _ hr) ?_
 rintro v s' ⟨rfl, rfl⟩
 have hsp : spanN digitB (s.drop i) = w.length := by rw [hw]; rfl
 have hu : ∀ h o, upd h r o t = h t := fun h o => upd_ne h o (Ne.symm hrt)
 rw [← hw, hsp]
 simp -dsimp -implicitDefEqProofs only [go_sem, Nat.reduceAdd, Nat.reduceEqDiff, reduceIte, reduceCtorEq, Nat.reduceLeDiff, Nat.reduceLT, Nat.reduceSub, Int.reduceEq, Int.reduceLT]
 refine DoesK_of (trim_call _ _) ?_
 rintro v s' ⟨rfl, rfl⟩
 have hwd : AllDigits w := by rw [hw]; exact digits_take _
 have hwl : w.length ≤ s.length := by rw [hw]; exact Nat.le_trans (List.takeWhile_prefix _).length_le (by simp)
 have key : ∀ S : List UInt8, S.length < 4294967281 → (∃ x l, S = x :: l ∧ (x = 48 → l = [])) → AllDigits S → decV 0 S = decV 0 w → Does X 57 [.str S] ⟨upd h r (rdr s (i + w.length)), c, []⟩ fun v s' => v = readV (decV 0 w) ∧ s' = ⟨upd h r (rdr s (i + w.length)), c, []⟩ := by
  rintro S hl ⟨x, l, hS, h0⟩ hd he
  rw [← he]
  exact read_call S x l hS hd h0 hl _
 simp -dsimp -implicitDefEqProofs only [go_sem, Nat.reduceAdd, Nat.reduceEqDiff, reduceIte, reduceCtorEq, Nat.reduceLeDiff, Nat.reduceLT, Nat.reduceSub, Int.reduceEq, Int.reduceLT]
 refine CondV_split (fun hc => ?_) fun hc => ?_
 ·simp -dsimp -implicitDefEqProofs only [go_sem, Nat.reduceAdd, Nat.reduceEqDiff, reduceIte, reduceCtorEq, Nat.reduceLeDiff, Nat.reduceLT, Nat.reduceSub, Int.reduceEq, Int.reduceLT]
  have hc' : w.dropWhile (· == 48) = [] := by simpa using hc
  refine DoesK_of (key [48] (by decide) ⟨48, [], rfl, fun _ => rfl⟩ (by simp [AllDigits]) (by rw [← decV_drop w, hc']; rfl)) ?_
  rintro v s' ⟨rfl, rfl⟩
  by_cases hb : decV 0 w ≤ 4611686018427387903
  ·simp -dsimp -implicitDefEqProofs only [go_sem, Nat.reduceAdd, Nat.reduceEqDiff, reduceIte, reduceCtorEq, Nat.reduceLeDiff, Nat.reduceLT, Nat.reduceSub, Int.reduceEq, Int.reduceLT, readV, hb, hu, ht, tokO, tokC]
  ·simp -dsimp -implicitDefEqProofs only [go_sem, Nat.reduceAdd, Nat.reduceEqDiff, reduceIte, reduceCtorEq, Nat.reduceLeDiff, Nat.reduceLT, Nat.reduceSub, Int.reduceEq, Int.reduceLT, readV, hb, hu, ht, tokO, tokC]
 ·simp -dsimp -implicitDefEqProofs only [go_sem, Nat.reduceAdd, Nat.reduceEqDiff, reduceIte, reduceCtorEq, Nat.reduceLeDiff, Nat.reduceLT, Nat.reduceSub, Int.reduceEq, Int.reduceLT]
  have hc' : w.dropWhile (· == 48) ≠ [] := by simpa using hc
  obtain ⟨x, l, hxl⟩ := List.exists_cons_of_ne_nil hc'
  refine DoesK_of (key _ (Nat.lt_of_le_of_lt (List.dropWhile_suffix _).length_le (by omega)) ⟨x, l, hxl, fun e => absurd (dropWhile_head hxl) (by simp [e])⟩ (fun b hb => hwd b ((List.dropWhile_suffix _).subset hb)) (decV_drop w)) ?_
  rintro v s' ⟨rfl, rfl⟩
  by_cases hb : decV 0 w ≤ 4611686018427387903
  ·simp -dsimp -implicitDefEqProofs only [go_sem, Nat.reduceAdd, Nat.reduceEqDiff, reduceIte, reduceCtorEq, Nat.reduceLeDiff, Nat.reduceLT, Nat.reduceSub, Int.reduceEq, Int.reduceLT, readV, hb, hu, ht, tokO, tokC]
  ·simp -dsimp -implicitDefEqProofs only [go_sem, Nat.reduceAdd, Nat.reduceEqDiff, reduceIte, reduceCtorEq, Nat.reduceLeDiff, Nat.reduceLT, Nat.reduceSub, Int.reduceEq, Int.reduceLT, readV, hb, hu, ht, tokO, tokC]
def plainB (c : UInt8) : Bool := decide (32 ≤ c.toNat) && decide (c.toNat ≤ 126) && decide (c ≠ 34) && decide (c ≠ 92)
theorem plainb_call (b : UInt8) (st : ASt) : Does X 76 [.int .u8 b.toNat] st fun v s' => v = .bool (plainB b) ∧ s' = st := by
 obtain ⟨h, c, d⟩ := st
 refine call_aw b76 rfl rfl rfl ?_; delta b76
 have e34 : decide ((b.toNat : Int) = 34) = decide (b = 34) := by rw [decide_eq_decide, show (34 : Int) = ((34 : UInt8).toNat : Int) from rfl, byte_eq]
 have e92 : decide ((b.toNat : Int) = 92) = decide (b = 92) := by rw [decide_eq_decide, show (92 : Int) = ((92 : UInt8).toNat : Int) from rfl, byte_eq]
 have n1 : decide (32 ≤ b.toNat) = decide ((b.toNat : Int) ≥ 32) := by rw [decide_eq_decide]; omega
 have n2 : decide (b.toNat ≤ 126) = decide ((b.toNat : Int) ≤ 126) := by rw [decide_eq_decide]; omega
 have m34 : decide (b ≠ 34) = decide (¬ (b.toNat : Int) = 34) := by rw [decide_not, decide_not, e34]
 have m92 : decide (b ≠ 92) = decide (¬ (b.toNat : Int) = 92) := by rw [decide_not, decide_not, e92]
 have hP : plainB b = (decide ((b.toNat : Int) ≥ 32) && decide ((b.toNat : Int) ≤ 126) && decide (¬ (b.toNat : Int) = 34) && decide (¬ (b.toNat : Int) = 92)) := by
  rw [plainB, n1, n2, m34, m92]
 rw [hP]
 cases h1 : decide ((b.toNat : Int) ≥ 32) <;> cases h2 : decide ((b.toNat : Int) ≤ 126) <;> cases h3 : decide (¬ (b.toNat : Int) = 34) <;> cases h4 : decide (¬ (b.toNat : Int) = 92) <;>
  simp -dsimp -implicitDefEqProofs only [go_sem, Nat.reduceAdd, Nat.reduceEqDiff, reduceIte, reduceCtorEq, Nat.reduceLeDiff, Nat.reduceLT, Nat.reduceSub, Int.reduceEq, Int.reduceLT, h1, h2, h3, h4] <;> rfl
def hexs : List UInt8 := [48, 49, 50, 51, 52, 53, 54, 55, 56, 57, 97, 98, 99, 100, 101, 102]
/-- The value of a digit of sixteen. -/
def hexV (c : UInt8) : Option Nat := if 48 ≤ c.toNat ∧ c.toNat ≤ 57 then some (c.toNat - 48) else if 97 ≤ c.toNat ∧ c.toNat ≤ 102 then some (c.toNat - 87) else none
theorem hexV_lt {c : UInt8} {n : Nat} (h : hexV c = some n) : n < 16 := by
 unfold hexV at h; split at h
 ·injection h; omega
 ·split at h
  ·injection h; omega
  ·cases h
/-- So many digits of sixteen more. -/
def hexStep : Nat → Nat → List UInt8 → Int × UInt8 × Nat
 | 0, n, _ => (0, UInt8.ofNat n, 3)
 | _ + 1, _, [] => (11, 0, 0)
 | k + 1, n, a :: r => match hexV a with
  | none => (10, 0, 0)
  | some y => hexStep k (16 * n + y) r
/-- What an escape says: an error, the byte, how many bytes it takes. -/
def escP : List UInt8 → Int × UInt8 × Nat
 | [] => (11, 0, 0)
 | c :: r => if c = 110 then (0, 10, 1) else if c = 34 then (0, 34, 1) else if c = 92 then (0, 92, 1) else if c ≠ 120 then (10, 0, 0) else hexStep 2 0 r
def escA (p : Int × UInt8 × Nat) : AV := .tuple [.int .u8 p.2.1.toNat, .int .i64 (p.2.2 : Int), .int .i64 p.1]
def zeros16 : List AV := [(.int .u8 0), (.int .u8 0), (.int .u8 0), (.int .u8 0), (.int .u8 0), (.int .u8 0), (.int .u8 0), (.int .u8 0), (.int .u8 0), (.int .u8 0), (.int .u8 0), (.int .u8 0), (.int .u8 0), (.int .u8 0), (.int .u8 0), (.int .u8 0)]
def parts16 : List (Nat × Nat × AOpd) := [(0, (1, (.val (.int .u8 48)))), (1, (1, (.val (.int .u8 49)))), (2, (1, (.val (.int .u8 50)))), (3, (1, (.val (.int .u8 51)))), (4, (1, (.val (.int .u8 52)))), (5, (1, (.val (.int .u8 53)))), (6, (1, (.val (.int .u8 54)))), (7, (1, (.val (.int .u8 55)))), (8, (1, (.val (.int .u8 56)))), (9, (1, (.val (.int .u8 57)))), (10, (1, (.val (.int .u8 97)))), (11, (1, (.val (.int .u8 98)))), (12, (1, (.val (.int .u8 99)))), (13, (1, (.val (.int .u8 100)))), (14, (1, (.val (.int .u8 101)))), (15, (1, (.val (.int .u8 102))))]
theorem fill16 (e : AEnv) : fillV (ev e) zeros16 parts16 = some (hexs.map byteV) := by kernel_rfl
theorem sixteen_call (h : Hp) (c : Nat) (d : List (Nat × List AV)) : Does X 88 [] ⟨h, c, d⟩ fun v s' => v = .agg (hexs.map byteV) ∧ ∃ h' c', s' = ⟨h', c', d⟩ ∧ Fr h c h' c' [] := by
 refine call_aw b88 rfl rfl rfl ?_
 rw [show b88 = (.seq (.region 1 [(0, zeros16)] [⟨(some 0), none, (.alloc 0 zeros16)⟩] []) (.seq (.region 0 [] [⟨(some 1), none, (.build zeros16 parts16)⟩, ⟨none, none, (.store 16 (.tmp 0) (.tmp 1))⟩] []) .ret)) from rfl]
 have hl : (hexs.map byteV).length = 16 := rfl
 have hz : zeros16.length = 16 := rfl
 have ht : (hexs.map byteV).take 16 = hexs.map byteV := rfl
 have hzd : zeros16.drop 16 = [] := rfl
 generalize hG : hexs.map byteV = G at *
 have hf := fun e => (fill16 e).trans (congrArg some hG)
 simp -dsimp -implicitDefEqProofs only [go_sem, Nat.reduceAdd, Nat.reduceEqDiff, reduceIte, reduceCtorEq, Nat.reduceLeDiff, Nat.reduceLT, Nat.reduceSub, Int.reduceEq, Int.reduceLT, OpK_alloc, preH, hf, hl, hz, ldObj, ldCells, hzd, ht]
 exact ⟨_, _, rfl, ((Fr.refl h c []).upd _ (.inr (Nat.le_refl _)) (Nat.le_succ _)).wide fun _ h => h⟩
theorem signs_call (h : Hp) (c : Nat) (d : List (Nat × List AV)) : Does X 87 [] ⟨h, c, d⟩ fun v s' => ∃ m h' c', v = .map m ∧ s' = ⟨h', c', d⟩ ∧ Fr h c h' c' [] ∧ ∃ k, h' m = some (.map [(.int .u8 110, .int .u8 10, 0), (.int .u8 34, .int .u8 34, 1), (.int .u8 92, .int .u8 92, 2)] k) := by
 refine call_aw b87 rfl rfl rfl ?_; delta b87
 simp -dsimp -implicitDefEqProofs only [go_sem, Nat.reduceAdd, Nat.reduceEqDiff, reduceIte, reduceCtorEq, Nat.reduceLeDiff, Nat.reduceLT, Nat.reduceSub, Int.reduceEq, Int.reduceLT, keyed, eqKey, eqT, updM, putE, Option.isSome_some]
 exact ⟨_, _, _, rfl, rfl, (Fr.refl h c []).upd _ (.inr (Nat.le_refl _)) (Nat.le_succ _), _, upd_same _ _ _⟩
/-- The place of a digit of sixteen. -/
def hexI (x : UInt8) : Int := match hexV x with
 | some n => (n : Int)
 | none => -1
theorem hex_all : ∀ m, m < 256 → (match hexV (UInt8.ofNat m) with | some n => decide (n < 16) && decide (hexs[n]? = some (UInt8.ofNat m)) | none => true) = true := by decide +kernel
theorem hex_one : ∀ n, n < 16 → (match hexs[n]? with | some x => decide (hexV x = some n) | none => false) = true := by decide +kernel
theorem hex_some {n : Nat} {x : UInt8} (h : hexs[n]? = some x) : hexV x = some n := by
 have hn : n < 16 := by
  rcases Nat.lt_or_ge n 16 with h' | h'
  ·exact h'
  ·rw [List.getElem?_eq_none (show hexs.length ≤ n from h')] at h; cases h
 have := hex_one n hn
 rw [h] at this
 simpa using this
theorem hex_none {x : UInt8} (h : ∀ n : Nat, n < 16 → hexs[n]? ≠ some x) : hexV x = none := by
 have := hex_all x.toNat (UInt8.toNat_lt x)
 rw [UInt8.ofNat_toNat] at this
 cases hx : hexV x with
 | none => rfl
 | some n =>
  rw [hx] at this
  simp at this
  exact absurd this.2 (h n this.1)
theorem cutArr_none (n sz id off : Nat) : cutArr n sz none none (.ptr id off) = some (.mslice id off n n) := by
 simp [cutArr, boundsA]
theorem index_call (id : Nat) (h : Hp) (c : Nat) (d : List (Nat × List AV)) (hid : h id = some (.cells (hexs.map byteV))) (x : UInt8) :
  Does X 89 [.mslice id 0 16 16, .int .u8 x.toNat] ⟨h, c, d⟩ fun v s' => v = .int .i64 (hexI x) ∧ s' = ⟨h, c, d⟩ := by
 refine call_aw b89 rfl rfl rfl ?_; delta b89
 simp -dsimp -implicitDefEqProofs only [go_sem, Nat.reduceAdd, Nat.reduceEqDiff, reduceIte, reduceCtorEq, Nat.reduceLeDiff, Nat.reduceLT, Nat.reduceSub, Int.reduceEq, Int.reduceLT]
 let I : Nat → AEnv → ASt → Prop := fun m e st => ∃ j : Nat, m = 16 - j ∧ j ≤ 16 ∧ (∀ i, i < j → hexs[i]? ≠ some x) ∧ e.get 0 = .mslice id 0 16 16 ∧ e.get 1 = .int .u8 x.toNat ∧ e.get 7 = .int .i64 16 ∧ e.get 8 = .int .i64 (j : Int) ∧ st = ⟨h, c, []⟩
 refine LoopK_rule I 16 ⟨0, rfl, Nat.zero_le _, fun i hi => by omega, rfl, rfl, rfl, rfl, rfl⟩ ?_
 rintro m e st ⟨j, rfl, hj, hno, g0, g1, g7, g8, rfl⟩
 simp -dsimp -implicitDefEqProofs only [go_sem, Nat.reduceAdd, Nat.reduceEqDiff, reduceIte, reduceCtorEq, Nat.reduceLeDiff, Nat.reduceLT, Nat.reduceSub, Int.reduceEq, Int.reduceLT, g0, g1, g7, g8]
 refine CondV_split (fun hc => ?_) fun hc => ?_
 ·have hj' : j < 16 := by simp at hc; omega
  obtain ⟨y, hg⟩ : ∃ y, hexs[j]? = some y := ⟨_, List.getElem?_eq_getElem (show j < hexs.length from hj')⟩
  simp -dsimp -implicitDefEqProofs only [go_sem, Nat.reduceAdd, Nat.reduceEqDiff, reduceIte, reduceCtorEq, Nat.reduceLeDiff, Nat.reduceLT, Nat.reduceSub, Int.reduceEq, Int.reduceLT, g0, g1, g7, g8, hj', hid, ldCells, hg, byteV]
  refine CondV_split (fun hq => ?_) fun hq => ?_
  ·have hx : x = y := by simpa [byte_eq] using hq
   have hI : hexI x = (j : Int) := by rw [hexI, hex_some (n := j) (by rw [hg, hx])]
   simp -dsimp -implicitDefEqProofs only [go_sem, Nat.reduceAdd, Nat.reduceEqDiff, reduceIte, reduceCtorEq, Nat.reduceLeDiff, Nat.reduceLT, Nat.reduceSub, Int.reduceEq, Int.reduceLT, g0, g1, g7, g8, hI]
  ·have hx : x ≠ y := by simpa [byte_eq] using hq
   simp -dsimp -implicitDefEqProofs only [go_sem, Nat.reduceAdd, Nat.reduceEqDiff, reduceIte, reduceCtorEq, Nat.reduceLeDiff, Nat.reduceLT, Nat.reduceSub, Int.reduceEq, Int.reduceLT, g0, g1, g7, g8]
   refine Again.of (16 - (j + 1)) (by omega) ⟨j + 1, rfl, by omega, fun i hi => ?_, g0, g1, g7, ?_, rfl⟩
   ·rcases Nat.lt_or_ge i j with h' | h'
    ·exact hno i h'
    ·obtain rfl : i = j := by omega
     rw [hg]; simpa using fun e => hx e.symm
   ·show AV.int .i64 (IntKind.wrap .i64 ((j : Int) + 1)) = _
    rw [wrap_i64 (by omega) (by omega)]; rfl
 ·have hj' : j = 16 := by simp at hc; omega
  have hI : hexI x = -1 := by rw [hexI, hex_none (by rw [← hj']; exact hno)]
  simp -dsimp -implicitDefEqProofs only [go_sem, Nat.reduceAdd, Nat.reduceEqDiff, reduceIte, reduceCtorEq, Nat.reduceLeDiff, Nat.reduceLT, Nat.reduceSub, Int.reduceEq, Int.reduceLT, g0, g1, g7, g8, hI]
theorem escape_call (s : List UInt8) (h : Hp) (c : Nat) (d : List (Nat × List AV)) : Does X 75 [.str s] ⟨h, c, d⟩ fun v s' => v = escA (escP s) ∧ ∃ h' c', s' = ⟨h', c', d⟩ ∧ Fr h c h' c' [] := by
 refine call_aw b75 rfl rfl rfl ?_; delta b75
 cases s with
 | nil =>
  simp -dsimp -implicitDefEqProofs only [go_sem, Nat.reduceAdd, Nat.reduceEqDiff, reduceIte, reduceCtorEq, Nat.reduceLeDiff, Nat.reduceLT, Nat.reduceSub, Int.reduceEq, Int.reduceLT]
  exact ⟨rfl, _, _, rfl, Fr.refl _ _ _⟩
 | cons x r =>
  have e0 : decide ((x :: r) = []) = false := by simp
  have hs0 : strAt (.int .i64 0) (.str (x :: r)) = some (.int .u8 x.toNat) := rfl
  simp -dsimp -implicitDefEqProofs only [go_sem, Nat.reduceAdd, Nat.reduceEqDiff, reduceIte, reduceCtorEq, Nat.reduceLeDiff, Nat.reduceLT, Nat.reduceSub, Int.reduceEq, Int.reduceLT, e0]
  refine DoesK_of (signs_call _ _ _) ?_
  rintro v s' ⟨m, h1, c1, rfl, rfl, f1, k, hm⟩
  have q120 : decide (¬ (x.toNat : Int) = 120) = decide (x ≠ 120) := by rw [decide_eq_decide, show (120 : Int) = ((120 : UInt8).toNat : Int) from rfl, byte_eq]
  have look : ∀ (a : Int) (b : Bool), (x = 110 ∧ a = 10 ∧ b = true) ∨ (x = 34 ∧ a = 34 ∧ b = true) ∨ (x = 92 ∧ a = 92 ∧ b = true) ∨ (x ≠ 110 ∧ x ≠ 34 ∧ x ≠ 92 ∧ a = 0 ∧ b = false) →
    keyed (.one .int) (.int .u8 x.toNat) (lookM (.one .int) (.int .u8 0) true h1 (.int .u8 x.toNat) (.map m)) = some (.tuple [.int .u8 a, .bool b]) := by
   intro a b hab
   have q110 : decide ((x.toNat : Int) = 110) = decide (x = 110) := by rw [decide_eq_decide, show (110 : Int) = ((110 : UInt8).toNat : Int) from rfl, byte_eq]
   have q34 : decide ((x.toNat : Int) = 34) = decide (x = 34) := by rw [decide_eq_decide, show (34 : Int) = ((34 : UInt8).toNat : Int) from rfl, byte_eq]
   have q92 : decide ((x.toNat : Int) = 92) = decide (x = 92) := by rw [decide_eq_decide, show (92 : Int) = ((92 : UInt8).toNat : Int) from rfl, byte_eq]
   simp only [lookM, hm, lookObj, lookV, findE, keyed, eqKey, eqT, Option.isSome_some, okPair, q110, q34, q92, if_true]
   rcases hab with ⟨rfl, rfl, rfl⟩ | ⟨rfl, rfl, rfl⟩ | ⟨rfl, rfl, rfl⟩ | ⟨h1, h2, h3, rfl, rfl⟩
   ·rfl
   ·rfl
   ·rfl
   ·simp [h1, h2, h3]
  by_cases h110 : x = 110
  ·simp -dsimp -implicitDefEqProofs only [go_sem, Nat.reduceAdd, Nat.reduceEqDiff, reduceIte, reduceCtorEq, Nat.reduceLeDiff, Nat.reduceLT, Nat.reduceSub, Int.reduceEq, Int.reduceLT, hs0, look 10 true (.inl ⟨h110, rfl, rfl⟩)]
   simp only [escP, if_pos h110]
   exact ⟨rfl, _, _, rfl, f1⟩
  ·by_cases h34 : x = 34
   ·simp -dsimp -implicitDefEqProofs only [go_sem, Nat.reduceAdd, Nat.reduceEqDiff, reduceIte, reduceCtorEq, Nat.reduceLeDiff, Nat.reduceLT, Nat.reduceSub, Int.reduceEq, Int.reduceLT, hs0, look 34 true (.inr (.inl ⟨h34, rfl, rfl⟩))]
    simp only [escP, if_neg h110, if_pos h34]
    exact ⟨rfl, _, _, rfl, f1⟩
   ·by_cases h92 : x = 92
    ·simp -dsimp -implicitDefEqProofs only [go_sem, Nat.reduceAdd, Nat.reduceEqDiff, reduceIte, reduceCtorEq, Nat.reduceLeDiff, Nat.reduceLT, Nat.reduceSub, Int.reduceEq, Int.reduceLT, hs0, look 92 true (.inr (.inr (.inl ⟨h92, rfl, rfl⟩)))]
     simp only [escP, if_neg h110, if_neg h34, if_pos h92]
     exact ⟨rfl, _, _, rfl, f1⟩
    ·simp -dsimp -implicitDefEqProofs only [go_sem, Nat.reduceAdd, Nat.reduceEqDiff, reduceIte, reduceCtorEq, Nat.reduceLeDiff, Nat.reduceLT, Nat.reduceSub, Int.reduceEq, Int.reduceLT, hs0, look 0 false (.inr (.inr (.inr ⟨h110, h34, h92, rfl, rfl⟩))), q120]
     refine CondV_split (fun hq => ?_) fun hq => ?_
     ·have hq' : x ≠ 120 := by simpa using hq
      simp -dsimp -implicitDefEqProofs only [go_sem, Nat.reduceAdd, Nat.reduceEqDiff, reduceIte, reduceCtorEq, Nat.reduceLeDiff, Nat.reduceLT, Nat.reduceSub, Int.reduceEq, Int.reduceLT]
      simp only [escP, if_neg h110, if_neg h34, if_neg h92, if_pos hq']
      exact ⟨rfl, _, _, rfl, f1⟩
     ·have hq' : x = 120 := by simpa using hq
      have hE : escP (x :: r) = hexStep 2 0 r := by rw [escP, if_neg h110, if_neg h34, if_neg h92, if_neg (by simp [hq'])]
      rw [hE]
      simp -dsimp -implicitDefEqProofs only [go_sem, Nat.reduceAdd, Nat.reduceEqDiff, reduceIte, reduceCtorEq, Nat.reduceLeDiff, Nat.reduceLT, Nat.reduceSub, Int.reduceEq, Int.reduceLT, preH]
      refine DoesK_of (sixteen_call _ _ _) ?_
      rintro v s' ⟨rfl, h2, c2, rfl, f2⟩
      have hz := f2.at (Nat.lt_succ_self c1) (by simp)
      rw [upd_same] at hz
      have hl : (hexs.map byteV).length = 16 := rfl
      obtain ⟨G, hG⟩ : ∃ G, G = hexs.map byteV := ⟨_, rfl⟩
      rw [← hG] at hl ⊢
      simp -dsimp -implicitDefEqProofs only [go_sem, Nat.reduceAdd, Nat.reduceEqDiff, reduceIte, reduceCtorEq, Nat.reduceLeDiff, Nat.reduceLT, Nat.reduceSub, Int.reduceEq, Int.reduceLT, OpK_alloc, hz, hl]
      have hlen : ((x :: r).length : Int) = ((r.length + 1 : Nat) : Int) := rfl
      have fin : Fr h c (upd h2 c1 (.cells G)) c2 [] := (((f1.upd _ (.inr f1.le) (Nat.le_succ _)).trans f2 (by simp)).upd _ (.inr f1.le) (Nat.le_refl _))
      generalize hH : upd h2 c1 (.cells G) = H at fin ⊢
      have hid : H c1 = some (.cells (hexs.map byteV)) := by rw [← hH, upd_same, hG]
      let I : Nat → AEnv → ASt → Prop := fun m e st => ∃ j n : Nat, m = 3 - j ∧ 1 ≤ j ∧ j ≤ 3 ∧ n < 16 ^ (j - 1) ∧ hexStep (3 - j) n ((x :: r).drop j) = hexStep 2 0 r ∧ e.get 0 = .str (x :: r) ∧ e.get 7 = .ptr c1 0 ∧ e.get 8 = .int .i64 (n : Int) ∧ e.get 9 = .int .i64 (j : Int) ∧ st = ⟨H, c2, []⟩
      refine LoopK_rule I 2 ⟨1, 0, rfl, Nat.le_refl _, by decide, by decide, rfl, rfl, rfl, rfl, rfl, rfl⟩ ?_
      rintro m e st ⟨j, n, rfl, hj1, hj3, hn, hst, g0, g7, g8, g9, rfl⟩
      simp -dsimp -implicitDefEqProofs only [go_sem, Nat.reduceAdd, Nat.reduceEqDiff, reduceIte, reduceCtorEq, Nat.reduceLeDiff, Nat.reduceLT, Nat.reduceSub, Int.reduceEq, Int.reduceLT, g0, g7, g8, g9]
      refine CondV_split (fun hc => ?_) fun hc => ?_
      ·have hj2 : j ≤ 2 := by simp at hc; omega
       simp -dsimp -implicitDefEqProofs only [go_sem, Nat.reduceAdd, Nat.reduceEqDiff, reduceIte, reduceCtorEq, Nat.reduceLeDiff, Nat.reduceLT, Nat.reduceSub, Int.reduceEq, Int.reduceLT, g0, g7, g8, g9]
       refine CondV_split (fun hc2 => ?_) fun hc2 => ?_
       ·have hdr : (x :: r).drop j = [] := by
         rw [List.drop_eq_nil_iff]
         simp at hc2
         simp; omega
        have h3j : 3 - j = (2 - j) + 1 := by omega
        rw [hdr, h3j, hexStep] at hst
        simp -dsimp -implicitDefEqProofs only [go_sem, Nat.reduceAdd, Nat.reduceEqDiff, reduceIte, reduceCtorEq, Nat.reduceLeDiff, Nat.reduceLT, Nat.reduceSub, Int.reduceEq, Int.reduceLT, g0, g7, g8, g9]
        rw [← hst]
        exact ⟨rfl, _, _, rfl, fin⟩
       ·have hjl : j < (x :: r).length := by
         simp at hc2
         simp; omega
        have hg := List.getElem?_eq_getElem hjl
        have hdr : (x :: r).drop j = (x :: r)[j] :: (x :: r).drop (j + 1) := List.drop_eq_getElem_cons hjl
        have h3j : 3 - j = (2 - j) + 1 := by omega
        generalize (x :: r)[j] = y at hg hdr
        simp -dsimp -implicitDefEqProofs only [go_sem, Nat.reduceAdd, Nat.reduceEqDiff, reduceIte, reduceCtorEq, Nat.reduceLeDiff, Nat.reduceLT, Nat.reduceSub, Int.reduceEq, Int.reduceLT, g0, g7, g8, g9, strAt_nat, hg, cutArr_none]
        refine DoesK_of (index_call c1 H c2 [] hid y) ?_
        rintro v s' ⟨rfl, rfl⟩
        rw [hdr, h3j, hexStep] at hst
        cases hy : hexV y with
        | none =>
         rw [hy] at hst
         have hI : hexI y = -1 := by rw [hexI, hy]
         simp -dsimp -implicitDefEqProofs only [go_sem, Nat.reduceAdd, Nat.reduceEqDiff, reduceIte, reduceCtorEq, Nat.reduceLeDiff, Nat.reduceLT, Nat.reduceSub, Int.reduceEq, Int.reduceLT, g0, g7, g8, g9, hI]
         rw [← hst]
         exact ⟨rfl, _, _, rfl, fin⟩
        | some z =>
         rw [hy] at hst
         have hz16 := hexV_lt hy
         have hn16 : n < 16 := by
          rcases (show j = 1 ∨ j = 2 by omega) with rfl | rfl
          ·simp at hn; omega
          ·simpa using hn
         have hI : hexI y = (z : Int) := by rw [hexI, hy]
         have hI2 : decide ((z : Int) < 0) = false := by simp
         have w1 : IntKind.wrap .i64 (16 * (n : Int)) = ((16 * n : Nat) : Int) := by rw [wrap_i64 (by omega) (by omega)]; omega
         have w2 : IntKind.wrap .i64 (((16 * n : Nat) : Int) + (z : Int)) = ((16 * n + z : Nat) : Int) := by rw [wrap_i64 (by omega) (by omega)]; omega
         have w3 : IntKind.wrap .i64 ((j : Int) + 1) = ((j + 1 : Nat) : Int) := by rw [wrap_i64 (by omega) (by omega)]; omega
         simp -dsimp -implicitDefEqProofs only [go_sem, Nat.reduceAdd, Nat.reduceEqDiff, reduceIte, reduceCtorEq, Nat.reduceLeDiff, Nat.reduceLT, Nat.reduceSub, Int.reduceEq, Int.reduceLT, g0, g7, g8, g9, hI, hI2, w1, w2, w3]
         refine Again.of (3 - (j + 1)) (by omega) ⟨j + 1, 16 * n + z, rfl, by omega, by omega, ?_, ?_, g0, g7, rfl, rfl, rfl⟩
         ·rcases (show j = 1 ∨ j = 2 by omega) with rfl | rfl
          ·simp at hn; subst hn; simpa using hz16
          ·simp at hn ⊢; omega
         ·rw [← hst, show 3 - (j + 1) = 2 - j by omega]
      ·have hj4 : j = 3 := by simp at hc; omega
       subst hj4
       have hw : IntKind.wrap .u8 (n : Int) = ((UInt8.ofNat n).toNat : Int) := by
        have : n < 256 := by simpa using hn
        rw [wrap_u8 (by omega) (by omega)]; simp [Nat.mod_eq_of_lt this]
       simp -dsimp -implicitDefEqProofs only [go_sem, Nat.reduceAdd, Nat.reduceEqDiff, reduceIte, reduceCtorEq, Nat.reduceLeDiff, Nat.reduceLT, Nat.reduceSub, Int.reduceEq, Int.reduceLT, g0, g7, g8, g9, hw]
       rw [← hst]
       exact ⟨rfl, _, _, rfl, fin⟩
/-- A text behind its first sign: the text, how many bytes it takes, an error. -/
def unqK : List UInt8 → Nat → List UInt8 → Nat → List UInt8 × Nat × Int
 | [], _, _, _ => ([], 0, 11)
 | _ :: r, k + 1, acc, a => unqK r k acc a
 | c :: r, 0, acc, a => if c = 10 then ([], 0, 11) else if c = 34 then (if 60 < acc.length then ([], 0, 12) else (acc, a + 1, 0)) else
  if c = 92 then (if (escP r).1 ≠ 0 then ([], 0, (escP r).1) else unqK r (escP r).2.2 (acc ++ [(escP r).2.1]) (a + 1 + (escP r).2.2)) else
  if plainB c = false then ([], 0, 10) else unqK r 0 (acc ++ [c]) (a + 1)
theorem unqK_drop : ∀ (r : List UInt8) (n : Nat) (acc : List UInt8) (a : Nat), unqK r n acc a = unqK (r.drop n) 0 acc a
 | [], n, acc, a => by simp [unqK]
 | c :: r, 0, acc, a => rfl
 | c :: r, n + 1, acc, a => by rw [unqK, unqK_drop r n, List.drop_succ_cons]
def unq : List UInt8 → List UInt8 × Nat × Int
 | [] => ([], 0, 14)
 | c :: r => if c ≠ 34 then ([], 0, 14) else unqK r 0 [] 1
def unqA (p : List UInt8 × Nat × Int) : AV := .tuple [.str p.1, .int .i64 (p.2.1 : Int), .int .i64 p.2.2]
theorem hexStep_ok : ∀ (k n : Nat) (r : List UInt8), (hexStep k n r).1 = 0 → k ≤ r.length ∧ (hexStep k n r).2.2 = 3
 | 0, n, r, _ => ⟨Nat.zero_le _, rfl⟩
 | k + 1, n, [], h => by simp [hexStep] at h
 | k + 1, n, a :: r, h => by
  rw [hexStep] at h ⊢
  cases hx : hexV a with
  | none => rw [hx] at h; simp at h
  | some y =>
   rw [hx] at h
   obtain ⟨h1, h2⟩ := hexStep_ok k _ r h
   exact ⟨by simp; omega, h2⟩
theorem escP_ok (r : List UInt8) (h : (escP r).1 = 0) : 1 ≤ (escP r).2.2 ∧ (escP r).2.2 ≤ r.length := by
 cases r with
 | nil => simp [escP] at h
 | cons c r =>
  simp only [escP] at h ⊢
  split
  ·simp
  ·split
   ·simp
   ·split
    ·simp
    ·split
     ·rename_i h1 h2 h3 h4
      rw [if_neg h1, if_neg h2, if_neg h3, if_pos h4] at h
      simp at h
     ·rename_i h1 h2 h3 h4
      rw [if_neg h1, if_neg h2, if_neg h3, if_neg h4] at h
      obtain ⟨h5, h6⟩ := hexStep_ok _ _ _ h
      rw [h6]; simp; omega
theorem unq_call (s : List UInt8) (hs : s.length < 4294967281) (h : Hp) (c : Nat) (d : List (Nat × List AV)) : Does X 58 [.str s] ⟨h, c, d⟩ fun v s' => v = unqA (unq s) ∧ ∃ h' c', s' = ⟨h', c', d⟩ ∧ Fr h c h' c' [] := by
 refine call_aw b58 rfl rfl rfl ?_; delta b58
 cases s with
 | nil =>
  simp -dsimp -implicitDefEqProofs only [go_sem, Nat.reduceAdd, Nat.reduceEqDiff, reduceIte, reduceCtorEq, Nat.reduceLeDiff, Nat.reduceLT, Nat.reduceSub, Int.reduceEq, Int.reduceLT]
  exact ⟨rfl, _, _, rfl, Fr.refl _ _ _⟩
 | cons x r =>
  have e0 : decide ((x :: r) = []) = false := by simp
  have hs0 : strAt (.int .i64 0) (.str (x :: r)) = some (.int .u8 x.toNat) := rfl
  simp -dsimp -implicitDefEqProofs only [go_sem, Nat.reduceAdd, Nat.reduceEqDiff, reduceIte, reduceCtorEq, Nat.reduceLeDiff, Nat.reduceLT, Nat.reduceSub, Int.reduceEq, Int.reduceLT, e0, hs0]
  refine CondV_split (fun hq => ?_) fun hq => ?_
  ·have hx : x ≠ 34 := by intro e; subst e; simp at hq
   simp -dsimp -implicitDefEqProofs only [go_sem, Nat.reduceAdd, Nat.reduceEqDiff, reduceIte, reduceCtorEq, Nat.reduceLeDiff, Nat.reduceLT, Nat.reduceSub, Int.reduceEq, Int.reduceLT]
   simp only [unq, if_pos hx]
   exact ⟨rfl, _, _, rfl, Fr.refl _ _ _⟩
  ·have hx : x = 34 := byte_of (n := 34) (by simpa using hq) rfl
   simp -dsimp -implicitDefEqProofs only [go_sem, Nat.reduceAdd, Nat.reduceEqDiff, reduceIte, reduceCtorEq, Nat.reduceLeDiff, Nat.reduceLT, Nat.reduceSub, Int.reduceEq, Int.reduceLT]
   have hU : unq (x :: r) = unqK ((x :: r).drop 1) 0 [] 1 := by rw [unq, if_neg (by simp [hx])]; rfl
   rw [hU]
   generalize hS : x :: r = S at hs ⊢
   have hS1 : 1 ≤ S.length := by rw [← hS]; simp
   let I : Nat → AEnv → ASt → Prop := fun m e st => ∃ (j : Nat) (acc : List UInt8) (i : Option Nat) (H : Hp) (C : Nat), m = S.length - j ∧ 1 ≤ j ∧ j ≤ S.length ∧ acc.length ≤ j ∧ unqK (S.drop j) 0 acc j = unqK (S.drop 1) 0 [] 1 ∧ Fr h c H C [] ∧ OwnH H 1 i (acc.map byteV) ∧ (∀ k, i = some k → c ≤ k ∧ k < C) ∧
    e.get 0 = .str S ∧ e.get 5 = ownV i (acc.map byteV) ∧ e.get 6 = .int .i64 (j : Int) ∧ st = ⟨H, C, []⟩
   refine LoopK_rule I (S.length - 1) ⟨1, [], none, h, c, rfl, Nat.le_refl _, hS1, by simp, rfl, Fr.refl _ _ _, rfl, by simp, rfl, rfl, rfl, rfl⟩ ?_
   rintro m e st ⟨j, acc, i, H, C, rfl, hj1, hj, hacc, hst, hfr, how, hi, g0, g5, g6, rfl⟩
   by_cases hj' : j < S.length
   ·have hge : decide ((j : Int) ≥ (S.length : Int)) = false := by simp; omega
    have hg := List.getElem?_eq_getElem hj'
    have hdr : S.drop j = S[j] :: S.drop (j + 1) := List.drop_eq_getElem_cons hj'
    generalize S[j] = y at hg hdr
    rw [hdr] at hst
    have hjj : j + 1 ≤ S.length := hj'
    have w1 : IntKind.wrap .i64 ((j : Int) + 1) = ((j + 1 : Nat) : Int) := by rw [wrap_i64 (by omega) (by omega)]; omega
    have happ : ∀ (z : UInt8) (H' : Hp) (C' : Nat), Fr H C H' C' [] → appK C' 0 1 1 ⟨H', C' + 1, []⟩ (ownV i (acc.map byteV)) (.slice .full [.int .u8 z.toNat]) = some (ownV (some (i.getD C')) ((acc ++ [z]).map byteV), ⟨upd H' (i.getD C') (.arr (acc.length + 1) 1), C' + 1, []⟩) := by
     intro z H' C' hf
     have := @appK_one C' 0 1 1 H' (C' + 1) [] i (acc.map byteV) (byteV z) .full (how.keep fun k hk => hf.at (hi k hk).2 (by simp)) rfl (by simp; omega)
     simp only [List.length_map, Nat.add_zero] at this
     rw [List.map_append]
     exact this
    have next : ∀ (z : UInt8) (n : Nat) (H' : Hp) (C' : Nat) (e' : AEnv), Fr H C H' C' [] → 1 ≤ n → j + n ≤ S.length → unqK (S.drop (j + n)) 0 (acc ++ [z]) (j + n) = unqK (S.drop 1) 0 [] 1 → e'.get 0 = .str S → e'.get 5 = ownV (some (i.getD C')) ((acc ++ [z]).map byteV) → e'.get 6 = .int .i64 ((j + n : Nat) : Int) →
      Again I .mk (S.length - j) e' ⟨upd H' (i.getD C') (.arr (acc.length + 1) 1), C' + 1, []⟩ := by
     intro z n H' C' e' hf hn hjn hu q0 q5 q6
     have hci : c ≤ i.getD C' ∧ i.getD C' < C' + 1 := by
      cases hi' : i with
      | none => have := hfr.le; have := hf.le; exact ⟨by simp; omega, by simp⟩
      | some k => have := hi k hi'; have := hf.le; simp; omega
     refine Again.of (S.length - (j + n)) (by omega) ⟨j + n, acc ++ [z], some (i.getD C'), _, _, rfl, by omega, hjn, by simp; omega, hu, (hfr.trans hf (by simp)).upd _ (.inr hci.1) (Nat.le_succ _), ?_, ?_, q0, q5, q6, rfl⟩
     ·simp [OwnH, upd_same]
     ·rintro k hk; injection hk with hk; subst hk; exact hci
    simp -dsimp -implicitDefEqProofs only [go_sem, Nat.reduceAdd, Nat.reduceEqDiff, reduceIte, reduceCtorEq, Nat.reduceLeDiff, Nat.reduceLT, Nat.reduceSub, Int.reduceEq, Int.reduceLT, g0, g5, g6, strAt_nat, hg, hge]
    refine CondV_split (fun h10 => ?_) fun h10 => ?_
    ·have hy : y = 10 := byte_of h10 rfl
     simp -dsimp -implicitDefEqProofs only [go_sem, Nat.reduceAdd, Nat.reduceEqDiff, reduceIte, reduceCtorEq, Nat.reduceLeDiff, Nat.reduceLT, Nat.reduceSub, Int.reduceEq, Int.reduceLT]
     rw [← hst, hy]
     exact ⟨rfl, _, _, rfl, hfr⟩
    ·have hy10 : y ≠ 10 := byte_ne h10 rfl
     rw [unqK, if_neg hy10] at hst
     simp -dsimp -implicitDefEqProofs only [go_sem, Nat.reduceAdd, Nat.reduceEqDiff, reduceIte, reduceCtorEq, Nat.reduceLeDiff, Nat.reduceLT, Nat.reduceSub, Int.reduceEq, Int.reduceLT, g0, g5, g6, strAt_nat, hg, hge]
     refine CondV_split (fun h34 => ?_) fun h34 => ?_
     ·have hy : y = 34 := byte_of h34 rfl
      rw [if_pos hy] at hst
      simp -dsimp -implicitDefEqProofs only [go_sem, Nat.reduceAdd, Nat.reduceEqDiff, reduceIte, reduceCtorEq, Nat.reduceLeDiff, Nat.reduceLT, Nat.reduceSub, Int.reduceEq, Int.reduceLT, g0, g5, g6, strAt_nat, hg, hge, len_own i _ how, List.length_map]
      refine CondV_split (fun hl => ?_) fun hl => ?_
      ·have hl' : 60 < acc.length := by simp at hl; omega
       rw [if_pos hl'] at hst
       simp -dsimp -implicitDefEqProofs only [go_sem, Nat.reduceAdd, Nat.reduceEqDiff, reduceIte, reduceCtorEq, Nat.reduceLeDiff, Nat.reduceLT, Nat.reduceSub, Int.reduceEq, Int.reduceLT]
       rw [← hst]
       exact ⟨rfl, _, _, rfl, hfr⟩
      ·have hl' : ¬ 60 < acc.length := by simp at hl; omega
       rw [if_neg hl'] at hst
       simp -dsimp -implicitDefEqProofs only [go_sem, Nat.reduceAdd, Nat.reduceEqDiff, reduceIte, reduceCtorEq, Nat.reduceLeDiff, Nat.reduceLT, Nat.reduceSub, Int.reduceEq, Int.reduceLT, g0, g5, g6, str_own i acc how, w1]
       rw [← hst]
       exact ⟨rfl, _, _, rfl, hfr⟩
     ·have hy34 : y ≠ 34 := byte_ne h34 rfl
      rw [if_neg hy34] at hst
      simp -dsimp -implicitDefEqProofs only [go_sem, Nat.reduceAdd, Nat.reduceEqDiff, reduceIte, reduceCtorEq, Nat.reduceLeDiff, Nat.reduceLT, Nat.reduceSub, Int.reduceEq, Int.reduceLT, g0, g5, g6, strAt_nat, hg, hge]
      refine CondV_split (fun h92 => ?_) fun h92 => ?_
      ·have hy : y = 92 := byte_of h92 rfl
       rw [if_pos hy] at hst
       simp -dsimp -implicitDefEqProofs only [go_sem, Nat.reduceAdd, Nat.reduceEqDiff, reduceIte, reduceCtorEq, Nat.reduceLeDiff, Nat.reduceLT, Nat.reduceSub, Int.reduceEq, Int.reduceLT, g0, g5, g6, w1, hjj]
       refine DoesK_of (escape_call _ _ _ _) ?_
       rintro v s' ⟨rfl, H1, C1, rfl, f1⟩
       by_cases he : (escP (S.drop (j + 1))).1 = 0
       ·rw [if_neg (by simp [he])] at hst
        obtain ⟨hn1, hn2⟩ := escP_ok _ he
        rw [List.length_drop] at hn2
        rw [unqK_drop, List.drop_drop] at hst
        generalize escP (S.drop (j + 1)) = q at *
        obtain ⟨q1, q2, q3⟩ := q
        simp only at he hn1 hn2 hst
        subst he
        have w2 : IntKind.wrap .i64 (1 + (q3 : Int)) = ((1 + q3 : Nat) : Int) := by rw [wrap_i64 (by omega) (by omega)]; omega
        have w3 : IntKind.wrap .i64 ((j : Int) + ((1 + q3 : Nat) : Int)) = ((j + (1 + q3) : Nat) : Int) := by rw [wrap_i64 (by omega) (by omega)]; omega
        simp -dsimp -implicitDefEqProofs only [go_sem, Nat.reduceAdd, Nat.reduceEqDiff, reduceIte, reduceCtorEq, Nat.reduceLeDiff, Nat.reduceLT, Nat.reduceSub, Int.reduceEq, Int.reduceLT, escA, g0, g5, g6, partsV, happ q2 H1 C1 f1, w2, w3]
        refine next q2 (1 + q3) H1 C1 _ f1 (by omega) (by omega) (by rw [← hst]; congr 1 <;> first | (congr 1; omega) | omega) (by exact g0) rfl rfl
       ·rw [if_pos he] at hst
        simp -dsimp -implicitDefEqProofs only [go_sem, Nat.reduceAdd, Nat.reduceEqDiff, reduceIte, reduceCtorEq, Nat.reduceLeDiff, Nat.reduceLT, Nat.reduceSub, Int.reduceEq, Int.reduceLT, escA, he, g0, g5, g6]
        rw [← hst]
        exact ⟨rfl, _, _, rfl, hfr.trans f1 (by simp)⟩
      ·have hy92 : y ≠ 92 := byte_ne h92 rfl
       rw [if_neg hy92] at hst
       simp -dsimp -implicitDefEqProofs only [go_sem, Nat.reduceAdd, Nat.reduceEqDiff, reduceIte, reduceCtorEq, Nat.reduceLeDiff, Nat.reduceLT, Nat.reduceSub, Int.reduceEq, Int.reduceLT, g0, g5, g6, strAt_nat, hg, hge]
       refine DoesK_of (plainb_call _ _) ?_
       rintro v s' ⟨rfl, rfl⟩
       simp -dsimp -implicitDefEqProofs only [go_sem, Nat.reduceAdd, Nat.reduceEqDiff, reduceIte, reduceCtorEq, Nat.reduceLeDiff, Nat.reduceLT, Nat.reduceSub, Int.reduceEq, Int.reduceLT]
       refine CondV_split (fun hp => ?_) fun hp => ?_
       ·rw [if_pos (by simpa using hp)] at hst
        simp -dsimp -implicitDefEqProofs only [go_sem, Nat.reduceAdd, Nat.reduceEqDiff, reduceIte, reduceCtorEq, Nat.reduceLeDiff, Nat.reduceLT, Nat.reduceSub, Int.reduceEq, Int.reduceLT]
        rw [← hst]
        exact ⟨rfl, _, _, rfl, hfr⟩
       ·rw [if_neg (by simpa using hp)] at hst
        simp -dsimp -implicitDefEqProofs only [go_sem, Nat.reduceAdd, Nat.reduceEqDiff, reduceIte, reduceCtorEq, Nat.reduceLeDiff, Nat.reduceLT, Nat.reduceSub, Int.reduceEq, Int.reduceLT, g0, g5, g6, strAt_nat, hg, hge, partsV, happ y H C (Fr.refl _ _ _), w1]
        exact next y 1 H C _ (Fr.refl _ _ _) (Nat.le_refl _) hj' hst (by exact g0) rfl rfl
   ·have hge : decide ((j : Int) ≥ (S.length : Int)) = true := by simp; omega
    have hdr : S.drop j = [] := by rw [List.drop_eq_nil_iff]; omega
    simp -dsimp -implicitDefEqProofs only [go_sem, Nat.reduceAdd, Nat.reduceEqDiff, reduceIte, reduceCtorEq, Nat.reduceLeDiff, Nat.reduceLT, Nat.reduceSub, Int.reduceEq, Int.reduceLT, g0, g5, g6, hge]
    rw [← hst, hdr]
    exact ⟨rfl, _, _, rfl, hfr⟩
def smallB (c : UInt8) : Bool := isSmall c.toNat
def signsText : List UInt8 := [61, 60, 43, 45, 42, 47, 37, 94, 59, 124, 40, 41, 44, 95]
def signB (c : UInt8) : Bool := decide (Lib.indexByte signsText c ≥ 0)
structure Tk where
 k : Int
 t : List UInt8
 n : Int
/-- The token that a text begins with: an error, the token, how many bytes it has. -/
def tokP : List UInt8 → Int × Tk × Nat
 | [] => (0, ⟨0, [], 0⟩, 0)
 | c :: r => if digitB c = true then (if decV 0 ((c :: r).takeWhile digitB) ≤ 4611686018427387903 then (0, ⟨1, [], (decV 0 ((c :: r).takeWhile digitB) : Nat)⟩, ((c :: r).takeWhile digitB).length) else (13, ⟨0, [], 0⟩, 0))
  else if c = 34 then (if (unq (c :: r)).2.2 = 0 then (0, ⟨2, (unq (c :: r)).1, 0⟩, (unq (c :: r)).2.1) else ((unq (c :: r)).2.2, ⟨0, [], 0⟩, 0))
  else if (smallB c || largeB c) = true then (if 16 < ((c :: r).takeWhile innerB).length then (12, ⟨0, [], 0⟩, 0) else (0, ⟨nameKind ((c :: r).takeWhile innerB), (c :: r).takeWhile innerB, 0⟩, ((c :: r).takeWhile innerB).length))
  else if signB c = true then (if (c :: r).take 2 = [45, 62] then (0, ⟨5, (c :: r).take 2, 0⟩, 2) else (0, ⟨5, (c :: r).take 1, 0⟩, 1))
  else (10, ⟨0, [], 0⟩, 0)
theorem text_call (s : List UInt8) (hs : s.length < 4294967281) (r t i : Nat) (hi : i ≤ s.length) (h : Hp) (c : Nat) (d : List (Nat × List AV)) (hrc : r < c) (htc : t < c) (hr : h r = some (rdr s i)) (hrt : r ≠ t) (a : Nat) (ht : h t = some (tokO 0 [] 0 a)) (hn : (unq (s.drop i)).2.1 < 4294967281) :
  Does X 42 [.ptr r 0, .ptr t 0] ⟨h, c, d⟩ fun v s' => v = .int .i64 (unq (s.drop i)).2.2 ∧ ∃ h' c', s' = ⟨h', c', d⟩ ∧ Fr h c h' c' [r, t] ∧ h' r = some (rdr s (i + (unq (s.drop i)).2.1)) ∧ h' t = some (tokO 2 (unq (s.drop i)).1 0 a) := by
 refine call_aw b42 rfl rfl rfl ?_; delta b42
 simp -dsimp -implicitDefEqProofs only [go_sem, Nat.reduceAdd, Nat.reduceEqDiff, reduceIte, reduceCtorEq, Nat.reduceLeDiff, Nat.reduceLT, Nat.reduceSub, Int.reduceEq, Int.reduceLT, hr, rdr, hi]
 refine DoesK_of (unq_call (s.drop i) (by simp; omega) _ _ _) ?_
 rintro v s' ⟨rfl, h1, c1, rfl, f1⟩
 have hr1 : h1 r = some (rdr s i) := (f1.at hrc (by simp)).trans hr
 have ht1 : h1 t = some (tokO 0 [] 0 a) := (f1.at htc (by simp)).trans ht
 have hu : ∀ h o, upd h t o r = h r := fun h o => upd_ne h o hrt
 generalize unq (s.drop i) = p at *
 obtain ⟨p1, p2, p3⟩ := p
 simp only at hn
 have w : IntKind.wrap .i64 ((i : Int) + (p2 : Int)) = ((i + p2 : Nat) : Int) := by rw [wrap_i64 (by omega) (by omega)]; omega
 simp -dsimp -implicitDefEqProofs only [go_sem, Nat.reduceAdd, Nat.reduceEqDiff, reduceIte, reduceCtorEq, Nat.reduceLeDiff, Nat.reduceLT, Nat.reduceSub, Int.reduceEq, Int.reduceLT, unqA, hr1, ht1, tokO, tokC, rdr, hu, w]
 refine ⟨_, _, rfl, ((f1.wide (by simp)).upd _ (.inl (by simp)) (Nat.le_refl _)).upd _ (.inl (by simp)) (Nat.le_refl _), ?_, ?_⟩
 ·rw [upd_same]
 ·rw [upd_ne _ _ (Ne.symm hrt), upd_same]
theorem unqK_len : ∀ (l : List UInt8) (n : Nat) (acc : List UInt8) (a : Nat), (unqK l n acc a).2.1 ≤ a + l.length
 | [], n, acc, a => by simp [unqK]
 | c :: r, k + 1, acc, a => by rw [unqK]; have := unqK_len r k acc a; simp; omega
 | c :: r, 0, acc, a => by
  simp only [unqK]
  split
  ·simp
  ·split
   ·split
    ·simp
    ·first | (simp; done) | (simp; omega)
   ·split
    ·split
     ·simp
     ·rename_i h1
      have he : (escP r).1 = 0 := by simpa using h1
      obtain ⟨h2, h3⟩ := escP_ok r he
      rw [unqK_drop]
      have := unqK_len (r.drop (escP r).2.2) 0 (acc ++ [(escP r).2.1]) (a + 1 + (escP r).2.2)
      simp at this ⊢; omega
    ·split
     ·simp
     ·have := unqK_len r 0 (acc ++ [c]) (a + 1)
      simp; omega
termination_by l => l.length
theorem unq_len (l : List UInt8) : (unq l).2.1 ≤ l.length := by
 cases l with
 | nil => simp [unq]
 | cons c r =>
  rw [unq]; split
  ·simp
  ·have := unqK_len r 0 [] 1
   simp; omega
/-- How a token is read by a function of the reader. -/
def ReadsP (s : List UInt8) (r t i c a : Nat) (h : Hp) (d : List (Nat × List AV)) (p : Int × Tk × Nat) : AV → ASt → Prop := fun v s' =>
 v = .int .i64 p.1 ∧ ∃ h' c' k w n, s' = ⟨h', c', d⟩ ∧ Fr h c h' c' [r, t] ∧ h' t = some (tokO k w n a) ∧ (p.1 = 0 → k = p.2.1.k ∧ w = p.2.1.t ∧ n = p.2.1.n ∧ h' r = some (rdr s (i + p.2.2)))
section
variable {s : List UInt8} {r t a c : Nat} {h : Hp} {d : List (Nat × List AV)} {x : UInt8} {l : List UInt8}
theorem drop_lt (hx : s.drop a = x :: l) : a < s.length := by
 rcases Nat.lt_or_ge a s.length with h' | h'
 ·exact h'
 ·rw [List.drop_eq_nil_of_le h'] at hx; cases hx
theorem reads_number (hs : s.length < 4294967281) (hx : s.drop a = x :: l) (hd : digitB x = true) (hrc : r < c) (htc : t < c) (hrt : r ≠ t) (hr : h r = some (rdr s a)) (ht : h t = some (tokO 0 [] 0 a)) :
  Does X 41 [.ptr r 0, .ptr t 0] ⟨h, c, d⟩ (ReadsP s r t a c a h d (tokP (s.drop a))) := by
 have hP : tokP (s.drop a) = if decV 0 ((x :: l).takeWhile digitB) ≤ 4611686018427387903 then (0, ⟨1, [], (decV 0 ((x :: l).takeWhile digitB) : Nat)⟩, ((x :: l).takeWhile digitB).length) else (13, ⟨0, [], 0⟩, 0) := by
  rw [hx, tokP, if_pos hd]
 refine (number_call s hs r t a (Nat.le_of_lt (drop_lt hx)) h c d hr hrt a ht _ rfl).mono fun v s' hv => ?_
 rw [hP, ← hx]
 split at hv
 ·rename_i hb
  obtain ⟨rfl, rfl⟩ := hv
  rw [if_pos hb]
  refine ⟨rfl, _, _, _, _, _, rfl, ((Fr.refl _ _ _).upd _ (.inl (by simp)) (Nat.le_refl _)).upd _ (.inl (by simp)) (Nat.le_refl _), upd_same _ _ _, fun _ => ⟨rfl, rfl, rfl, ?_⟩⟩
  rw [upd_ne _ _ hrt, upd_same]
 ·rename_i hb
  obtain ⟨rfl, rfl⟩ := hv
  rw [if_neg hb]
  refine ⟨rfl, _, _, _, _, _, rfl, (Fr.refl _ _ _).upd _ (.inl (by simp)) (Nat.le_refl _), (upd_ne _ _ (Ne.symm hrt)).trans ht, fun e => by simp at e⟩
theorem reads_text (hs : s.length < 4294967281) (hx : s.drop a = x :: l) (hd : digitB x = false) (hq : x = 34) (hrc : r < c) (htc : t < c) (hrt : r ≠ t) (hr : h r = some (rdr s a)) (ht : h t = some (tokO 0 [] 0 a)) :
  Does X 42 [.ptr r 0, .ptr t 0] ⟨h, c, d⟩ (ReadsP s r t a c a h d (tokP (s.drop a))) := by
 have hP : tokP (s.drop a) = if (unq (x :: l)).2.2 = 0 then (0, ⟨2, (unq (x :: l)).1, 0⟩, (unq (x :: l)).2.1) else ((unq (x :: l)).2.2, ⟨0, [], 0⟩, 0) := by
  rw [hx, tokP, if_neg (by simp [hd]), if_pos hq]
 have hle : (unq (s.drop a)).2.1 < 4294967281 := by
  have := unq_len (s.drop a)
  simp at this; omega
 refine (text_call s hs r t a (Nat.le_of_lt (drop_lt hx)) h c d hrc htc hr hrt a ht hle).mono fun v s' hv => ?_
 obtain ⟨rfl, h', c', rfl, f, hr', ht'⟩ := hv
 rw [hP, ← hx]
 split
 ·rename_i he
  exact ⟨by rw [he], _, _, _, _, _, rfl, f, ht', fun _ => ⟨rfl, rfl, rfl, hr'⟩⟩
 ·rename_i he
  exact ⟨rfl, _, _, _, _, _, rfl, f, ht', fun e => absurd e he⟩
theorem reads_name (hs : s.length < 4294967281) (hx : s.drop a = x :: l) (hd : digitB x = false) (hq : x ≠ 34) (hn : (smallB x || largeB x) = true) (hrc : r < c) (htc : t < c) (hrt : r ≠ t) (hr : h r = some (rdr s a)) (ht : h t = some (tokO 0 [] 0 a)) :
  Does X 45 [.ptr r 0, .ptr t 0] ⟨h, c, d⟩ (ReadsP s r t a c a h d (tokP (s.drop a))) := by
 have hP : tokP (s.drop a) = if 16 < ((x :: l).takeWhile innerB).length then (12, ⟨0, [], 0⟩, 0) else (0, ⟨nameKind ((x :: l).takeWhile innerB), (x :: l).takeWhile innerB, 0⟩, ((x :: l).takeWhile innerB).length) := by
  rw [hx, tokP, if_neg (by simp [hd]), if_neg hq, if_pos hn]
 have hne : (s.drop a).takeWhile innerB ≠ [] := by
  rw [hx, List.takeWhile_cons, if_pos]
  ·simp
  ·simp only [innerB, isInner, smallB, largeB, Bool.or_eq_true] at hn ⊢
   exact hn.elim .inl fun h => .inr (.inl h)
 refine (name_call s hs r t a (drop_lt hx) h c d hr hrt a ht _ rfl hne).mono fun v s' hv => ?_
 rw [hP, ← hx]
 split at hv
 ·rename_i hb
  obtain ⟨rfl, o, rfl, rfl⟩ := hv
  rw [if_pos hb]
  exact ⟨rfl, _, _, _, _, _, rfl, ((Fr.refl _ _ _).upd _ (.inl (by simp)) (Nat.le_refl _)).upd _ (.inl (by simp)) (Nat.le_refl _), upd_same _ _ _, fun e => by simp at e⟩
 ·rename_i hb
  obtain ⟨rfl, rfl⟩ := hv
  rw [if_neg hb]
  exact ⟨rfl, _, _, _, _, _, rfl, ((Fr.refl _ _ _).upd _ (.inl (by simp)) (Nat.le_refl _)).upd _ (.inl (by simp)) (Nat.le_refl _), upd_same _ _ _, fun _ => ⟨rfl, rfl, rfl, (upd_ne _ _ hrt).trans (upd_same _ _ _)⟩⟩
theorem reads_sign (hs : s.length < 4294967281) (hx : s.drop a = x :: l) (hd : digitB x = false) (hq : x ≠ 34) (hn : (smallB x || largeB x) = false) (hg : signB x = true) (hrc : r < c) (htc : t < c) (hrt : r ≠ t) (hr : h r = some (rdr s a)) (ht : h t = some (tokO 0 [] 0 a)) :
  Does X 47 [.ptr r 0, .ptr t 0] ⟨h, c, d⟩ (ReadsP s r t a c a h d (tokP (s.drop a))) := by
 have hP : tokP (s.drop a) = if (x :: l).take 2 = [45, 62] then (0, ⟨5, (x :: l).take 2, 0⟩, 2) else (0, ⟨5, (x :: l).take 1, 0⟩, 1) := by
  rw [hx, tokP, if_neg (by simp [hd]), if_neg hq, if_neg (by simp [hn]), if_pos hg]
 refine (sign_call s hs r t a (drop_lt hx) h c d hr hrt a ht _ rfl).mono fun v s' hv => ?_
 obtain ⟨rfl, rfl⟩ := hv
 rw [hP, ← hx]
 split
 ·exact ⟨rfl, _, _, _, _, _, rfl, ((Fr.refl _ _ _).upd _ (.inl (by simp)) (Nat.le_refl _)).upd _ (.inl (by simp)) (Nat.le_refl _), (upd_ne _ _ (Ne.symm hrt)).trans (upd_same _ _ _), fun _ => ⟨rfl, rfl, rfl, upd_same _ _ _⟩⟩
 ·exact ⟨rfl, _, _, _, _, _, rfl, ((Fr.refl _ _ _).upd _ (.inl (by simp)) (Nat.le_refl _)).upd _ (.inl (by simp)) (Nat.le_refl _), (upd_ne _ _ (Ne.symm hrt)).trans (upd_same _ _ _), fun _ => ⟨rfl, rfl, rfl, upd_same _ _ _⟩⟩
theorem reads_odd (hx : s.drop a = x :: l) (hd : digitB x = false) (hq : x ≠ 34) (hn : (smallB x || largeB x) = false) (hg : signB x = false) (ht : h t = some (tokO 0 [] 0 a)) :
  Does X 39 [.ptr r 0, .ptr t 0] ⟨h, c, d⟩ (ReadsP s r t a c a h d (tokP (s.drop a))) := by
 have hP : tokP (s.drop a) = (10, ⟨0, [], 0⟩, 0) := by
  rw [hx, tokP, if_neg (by simp [hd]), if_neg hq, if_neg (by simp [hn]), if_neg (by simp [hg])]
 refine (odd_call _ _ _).mono fun v s' hv => ?_
 obtain ⟨rfl, rfl⟩ := hv
 rw [hP]
 exact ⟨rfl, _, _, _, _, _, rfl, Fr.refl _ _ _, ht, fun e => by simp at e⟩
end
def zeroT : List AV := [.int .i64 0, .str [], .int .i64 0, .int .i64 0]
theorem skipM_le : ∀ (b : Bool) (l : List UInt8), skipM b l ≤ l.length
 | b, [] => by cases b <;> simp [skipM]
 | true, c :: l => by
  have h1 := skipM_le false l
  have h2 := skipM_le true l
  simp only [skipM, List.length_cons]; split <;> omega
 | false, c :: l => by
  have h1 := skipM_le false l
  have h2 := skipM_le true l
  simp only [skipM, List.length_cons]; split
  ·omega
  ·split <;> omega
theorem next_call (s : List UInt8) (hs : s.length < 4294967281) (r i : Nat) (hi : i ≤ s.length) (h : Hp) (c : Nat) (d : List (Nat × List AV)) (hrc : r < c) (hr : h r = some (rdr s i)) (a : Nat) (ha : a = i + skipM false (s.drop i)) :
  Does X 27 [.ptr r 0] ⟨h, c, d⟩ fun v s' => ∃ k w n h' c', v = .tuple [.agg (tokC k w n a), .int .i64 (tokP (s.drop a)).1] ∧ s' = ⟨h', c', d⟩ ∧ Fr h c h' c' [r] ∧
   ((tokP (s.drop a)).1 = 0 → k = (tokP (s.drop a)).2.1.k ∧ w = (tokP (s.drop a)).2.1.t ∧ n = (tokP (s.drop a)).2.1.n ∧ h' r = some (rdr s (a + (tokP (s.drop a)).2.2))) := by
 refine call_aw b27 rfl rfl rfl ?_; delta b27
 have hrc1 : r ≠ c := by omega
 have hrc2 : r ≠ c + 1 := by omega
 simp -dsimp -implicitDefEqProofs only [go_sem, Nat.reduceAdd, Nat.reduceEqDiff, reduceIte, reduceCtorEq, Nat.reduceLeDiff, Nat.reduceLT, Nat.reduceSub, Int.reduceEq, Int.reduceLT, OpK_alloc, preH]
 refine DoesK_of (skip_call s hs r i hi _ _ _ (by rw [upd_ne _ _ hrc1]; exact hr)) ?_
 rintro v s' ⟨rfl, rfl⟩
 rw [← ha]
 have hu1 : ∀ h o, upd h c o r = h r := fun h o => upd_ne h o hrc1
 have hu2 : ∀ h o, upd h (c + 1) o r = h r := fun h o => upd_ne h o hrc2
 have hu3 : ∀ h o, upd h (c + 1) o c = h c := fun h o => upd_ne h o (by omega)
 have hu4 : ∀ h o, upd h r o c = h c := fun h o => upd_ne h o (by omega)
 simp -dsimp -implicitDefEqProofs only [go_sem, Nat.reduceAdd, Nat.reduceEqDiff, reduceIte, reduceCtorEq, Nat.reduceLeDiff, Nat.reduceLT, Nat.reduceSub, Int.reduceEq, Int.reduceLT, OpK_alloc, preH, hu1, hu2, hu3, hu4, rdr, fillV]
 have hF : Fr h c (upd (upd (upd h c (.cells zeroT)) r (rdr s a)) (c + 1) (tokO 0 [] 0 a)) (c + 1 + 1) [r] := (((Fr.refl h c [r]).upd _ (.inr (Nat.le_refl _)) (Nat.le_refl _)).upd _ (.inl (by simp)) (Nat.le_refl _)).upd _ (.inr (by omega)) (by omega)
 have Hr : upd (upd (upd h c (.cells zeroT)) r (rdr s a)) (c + 1) (tokO 0 [] 0 a) r = some (rdr s a) := by rw [hu2, upd_same]
 have Ht : upd (upd (upd h c (.cells zeroT)) r (rdr s a)) (c + 1) (tokO 0 [] 0 a) (c + 1) = some (tokO 0 [] 0 a) := upd_same _ _ _
 have Hc : upd (upd (upd h c (.cells zeroT)) r (rdr s a)) (c + 1) (tokO 0 [] 0 a) c = some (.cells zeroT) := by rw [hu3, hu4, upd_same]
 refine CondV_split (fun hq => ?_) fun hq => ?_
 ·have hal : a = s.length := by simp at hq; omega
  have htk : tokP (s.drop a) = (0, ⟨0, [], 0⟩, 0) := by rw [hal, List.drop_length]; rfl
  rw [htk]
  change Aw X _ _ _ _ _ ⟨upd (upd (upd h c (.cells zeroT)) r (rdr s a)) (c + 1) (tokO 0 [] 0 a), _, _⟩
  generalize upd (upd (upd h c (.cells zeroT)) r (rdr s a)) (c + 1) (tokO 0 [] 0 a) = H at hF Hr Ht Hc ⊢
  simp -dsimp -implicitDefEqProofs only [go_sem, Nat.reduceAdd, Nat.reduceEqDiff, reduceIte, reduceCtorEq, Nat.reduceLeDiff, Nat.reduceLT, Nat.reduceSub, Int.reduceEq, Int.reduceLT, Hr, Ht, Hc, tokO, tokC, zeroT, ldCells]
  exact ⟨_, _, _, _, _, rfl, rfl, hF.upd _ (.inr (Nat.le_refl _)) (Nat.le_refl _), fun _ => ⟨rfl, rfl, rfl, (upd_ne _ _ hrc1).trans Hr⟩⟩
 ·have hal : a < s.length := by
   have h1 : skipM false (s.drop i) ≤ (s.drop i).length := skipM_le _ _
   rw [List.length_drop] at h1
   simp at hq; omega
  change Aw X _ _ _ _ _ ⟨upd (upd (upd h c (.cells zeroT)) r (rdr s a)) (c + 1) (tokO 0 [] 0 a), _, _⟩
  generalize upd (upd (upd h c (.cells zeroT)) r (rdr s a)) (c + 1) (tokO 0 [] 0 a) = H at hF Hr Ht Hc ⊢
  have hg := List.getElem?_eq_getElem hal
  have hdr : s.drop a = s[a] :: s.drop (a + 1) := List.drop_eq_getElem_cons hal
  generalize s[a] = x at hg hdr
  generalize hl : s.drop (a + 1) = l at hdr
  simp -dsimp -implicitDefEqProofs only [go_sem, Nat.reduceAdd, Nat.reduceEqDiff, reduceIte, reduceCtorEq, Nat.reduceLeDiff, Nat.reduceLT, Nat.reduceSub, Int.reduceEq, Int.reduceLT, Hr, rdr, strAt_nat, hg]
  refine DoesK_of (digit_call _ _) ?_
  rintro v s' ⟨rfl, rfl⟩
  simp -dsimp -implicitDefEqProofs only [go_sem, Nat.reduceAdd, Nat.reduceEqDiff, reduceIte, reduceCtorEq, Nat.reduceLeDiff, Nat.reduceLT, Nat.reduceSub, Int.reduceEq, Int.reduceLT]
  refine CondV_split (fun hd => ?_) fun hd => ?_
  ·simp -dsimp -implicitDefEqProofs only [go_sem, Nat.reduceAdd, Nat.reduceEqDiff, reduceIte, reduceCtorEq, Nat.reduceLeDiff, Nat.reduceLT, Nat.reduceSub, Int.reduceEq, Int.reduceLT]
   refine DoesK_of (reads_number hs hdr hd (by omega) (by omega) (by omega) Hr Ht) ?_
   rintro v s' ⟨rfl, h', c', k, w, n, rfl, f, ht', hres⟩
   have hc' : h' c = some (.cells zeroT) := (f.at (by omega) (by simp; omega)).trans Hc
   simp -dsimp -implicitDefEqProofs only [go_sem, Nat.reduceAdd, Nat.reduceEqDiff, reduceIte, reduceCtorEq, Nat.reduceLeDiff, Nat.reduceLT, Nat.reduceSub, Int.reduceEq, Int.reduceLT, ht', tokO, tokC, hc', zeroT, ldCells, hu3]
   exact ⟨_, _, _, _, _, rfl, rfl, ((hF.trans f (by simp)).upd _ (.inr (Nat.le_refl _)) (Nat.le_refl _)), fun e => by obtain ⟨e1, e2, e3, e4⟩ := hres e; exact ⟨e1, e2, e3, (upd_ne _ _ hrc1).trans e4⟩⟩
  ·simp -dsimp -implicitDefEqProofs only [go_sem, Nat.reduceAdd, Nat.reduceEqDiff, reduceIte, reduceCtorEq, Nat.reduceLeDiff, Nat.reduceLT, Nat.reduceSub, Int.reduceEq, Int.reduceLT]
   refine CondV_split (fun h34 => ?_) fun h34 => ?_
   ·have hx34 : x = 34 := byte_of h34 rfl
    simp -dsimp -implicitDefEqProofs only [go_sem, Nat.reduceAdd, Nat.reduceEqDiff, reduceIte, reduceCtorEq, Nat.reduceLeDiff, Nat.reduceLT, Nat.reduceSub, Int.reduceEq, Int.reduceLT]
    refine DoesK_of (reads_text hs hdr hd hx34 (by omega) (by omega) (by omega) Hr Ht) ?_
    rintro v s' ⟨rfl, h', c', k, w, n, rfl, f, ht', hres⟩
    have hc' : h' c = some (.cells zeroT) := (f.at (by omega) (by simp; omega)).trans Hc
    simp -dsimp -implicitDefEqProofs only [go_sem, Nat.reduceAdd, Nat.reduceEqDiff, reduceIte, reduceCtorEq, Nat.reduceLeDiff, Nat.reduceLT, Nat.reduceSub, Int.reduceEq, Int.reduceLT, ht', tokO, tokC, hc', zeroT, ldCells, hu3]
    exact ⟨_, _, _, _, _, rfl, rfl, ((hF.trans f (by simp)).upd _ (.inr (Nat.le_refl _)) (Nat.le_refl _)), fun e => by obtain ⟨e1, e2, e3, e4⟩ := hres e; exact ⟨e1, e2, e3, (upd_ne _ _ hrc1).trans e4⟩⟩
   ·have hx34 : x ≠ 34 := byte_ne h34 rfl
    simp -dsimp -implicitDefEqProofs only [go_sem, Nat.reduceAdd, Nat.reduceEqDiff, reduceIte, reduceCtorEq, Nat.reduceLeDiff, Nat.reduceLT, Nat.reduceSub, Int.reduceEq, Int.reduceLT]
    refine DoesK_of (small_call _ _) ?_
    rintro v s' ⟨rfl, rfl⟩
    cases hsm : isSmall x.toNat with
    | true =>
     simp -dsimp -implicitDefEqProofs only [go_sem, Nat.reduceAdd, Nat.reduceEqDiff, reduceIte, reduceCtorEq, Nat.reduceLeDiff, Nat.reduceLT, Nat.reduceSub, Int.reduceEq, Int.reduceLT]
     refine DoesK_of (reads_name hs hdr hd hx34 (by simp [smallB, hsm]) (by omega) (by omega) (by omega) Hr Ht) ?_
     rintro v s' ⟨rfl, h', c', k, w, n, rfl, f, ht', hres⟩
     have hc' : h' c = some (.cells zeroT) := (f.at (by omega) (by simp; omega)).trans Hc
     simp -dsimp -implicitDefEqProofs only [go_sem, Nat.reduceAdd, Nat.reduceEqDiff, reduceIte, reduceCtorEq, Nat.reduceLeDiff, Nat.reduceLT, Nat.reduceSub, Int.reduceEq, Int.reduceLT, ht', tokO, tokC, hc', zeroT, ldCells, hu3]
     exact ⟨_, _, _, _, _, rfl, rfl, ((hF.trans f (by simp)).upd _ (.inr (Nat.le_refl _)) (Nat.le_refl _)), fun e => by obtain ⟨e1, e2, e3, e4⟩ := hres e; exact ⟨e1, e2, e3, (upd_ne _ _ hrc1).trans e4⟩⟩
    | false =>
     simp -dsimp -implicitDefEqProofs only [go_sem, Nat.reduceAdd, Nat.reduceEqDiff, reduceIte, reduceCtorEq, Nat.reduceLeDiff, Nat.reduceLT, Nat.reduceSub, Int.reduceEq, Int.reduceLT]
     refine DoesK_of (large_call _ _) ?_
     rintro v s' ⟨rfl, rfl⟩
     cases hlg : isLarge x.toNat with
     | true =>
      simp -dsimp -implicitDefEqProofs only [go_sem, Nat.reduceAdd, Nat.reduceEqDiff, reduceIte, reduceCtorEq, Nat.reduceLeDiff, Nat.reduceLT, Nat.reduceSub, Int.reduceEq, Int.reduceLT]
      refine DoesK_of (reads_name hs hdr hd hx34 (by simp [largeB, hlg]) (by omega) (by omega) (by omega) Hr Ht) ?_
      rintro v s' ⟨rfl, h', c', k, w, n, rfl, f, ht', hres⟩
      have hc' : h' c = some (.cells zeroT) := (f.at (by omega) (by simp; omega)).trans Hc
      simp -dsimp -implicitDefEqProofs only [go_sem, Nat.reduceAdd, Nat.reduceEqDiff, reduceIte, reduceCtorEq, Nat.reduceLeDiff, Nat.reduceLT, Nat.reduceSub, Int.reduceEq, Int.reduceLT, ht', tokO, tokC, hc', zeroT, ldCells, hu3]
      exact ⟨_, _, _, _, _, rfl, rfl, ((hF.trans f (by simp)).upd _ (.inr (Nat.le_refl _)) (Nat.le_refl _)), fun e => by obtain ⟨e1, e2, e3, e4⟩ := hres e; exact ⟨e1, e2, e3, (upd_ne _ _ hrc1).trans e4⟩⟩
     | false =>
      simp -dsimp -implicitDefEqProofs only [go_sem, Nat.reduceAdd, Nat.reduceEqDiff, reduceIte, reduceCtorEq, Nat.reduceLeDiff, Nat.reduceLT, Nat.reduceSub, Int.reduceEq, Int.reduceLT]
      refine DoesK_of (indexByte_call signsText x _) ?_
      rintro v s' ⟨rfl, rfl⟩
      have hsl : (smallB x || largeB x) = false := by simp [smallB, largeB, hsm, hlg]
      simp -dsimp -implicitDefEqProofs only [go_sem, Nat.reduceAdd, Nat.reduceEqDiff, reduceIte, reduceCtorEq, Nat.reduceLeDiff, Nat.reduceLT, Nat.reduceSub, Int.reduceEq, Int.reduceLT]
      refine CondV_split (fun hsg => ?_) fun hsg => ?_
      ·simp -dsimp -implicitDefEqProofs only [go_sem, Nat.reduceAdd, Nat.reduceEqDiff, reduceIte, reduceCtorEq, Nat.reduceLeDiff, Nat.reduceLT, Nat.reduceSub, Int.reduceEq, Int.reduceLT]
       refine DoesK_of (reads_sign hs hdr hd hx34 hsl hsg (by omega) (by omega) (by omega) Hr Ht) ?_
       rintro v s' ⟨rfl, h', c', k, w, n, rfl, f, ht', hres⟩
       have hc' : h' c = some (.cells zeroT) := (f.at (by omega) (by simp; omega)).trans Hc
       simp -dsimp -implicitDefEqProofs only [go_sem, Nat.reduceAdd, Nat.reduceEqDiff, reduceIte, reduceCtorEq, Nat.reduceLeDiff, Nat.reduceLT, Nat.reduceSub, Int.reduceEq, Int.reduceLT, ht', tokO, tokC, hc', zeroT, ldCells, hu3]
       exact ⟨_, _, _, _, _, rfl, rfl, ((hF.trans f (by simp)).upd _ (.inr (Nat.le_refl _)) (Nat.le_refl _)), fun e => by obtain ⟨e1, e2, e3, e4⟩ := hres e; exact ⟨e1, e2, e3, (upd_ne _ _ hrc1).trans e4⟩⟩
      ·simp -dsimp -implicitDefEqProofs only [go_sem, Nat.reduceAdd, Nat.reduceEqDiff, reduceIte, reduceCtorEq, Nat.reduceLeDiff, Nat.reduceLT, Nat.reduceSub, Int.reduceEq, Int.reduceLT]
       refine DoesK_of (reads_odd hdr hd hx34 hsl hsg Ht) ?_
       rintro v s' ⟨rfl, h', c', k, w, n, rfl, f, ht', hres⟩
       have hc' : h' c = some (.cells zeroT) := (f.at (by omega) (by simp; omega)).trans Hc
       simp -dsimp -implicitDefEqProofs only [go_sem, Nat.reduceAdd, Nat.reduceEqDiff, reduceIte, reduceCtorEq, Nat.reduceLeDiff, Nat.reduceLT, Nat.reduceSub, Int.reduceEq, Int.reduceLT, ht', tokO, tokC, hc', zeroT, ldCells, hu3]
       exact ⟨_, _, _, _, _, rfl, rfl, ((hF.trans f (by simp)).upd _ (.inr (Nat.le_refl _)) (Nat.le_refl _)), fun e => by obtain ⟨e1, e2, e3, e4⟩ := hres e; exact ⟨e1, e2, e3, (upd_ne _ _ hrc1).trans e4⟩⟩
/-- The tokens from a place on: they, a place, an error. -/
def toksP (s : List UInt8) : Nat → Nat → List (Tk × Nat) → List (Tk × Nat) × Nat × Int
 | 0, _, _ => ([], 0, 0)
 | f + 1, i, acc => let a := i + skipM false (s.drop i); let p := tokP (s.drop a)
  if p.1 ≠ 0 then ([], a, p.1) else if p.2.1.k = 0 then (acc ++ [(p.2.1, a)], 0, 0) else toksP s f (a + p.2.2) (acc ++ [(p.2.1, a)])
def Toks (s : List UInt8) : List (Tk × Nat) × Nat × Int := if 2000 < s.length then ([], 0, 12) else toksP s (s.length + 1) 0 []
def tkV (p : Tk × Nat) : AV := .agg (tokC p.1.k p.1.t p.1.n p.2)
theorem unqK_pos : ∀ (l : List UInt8) (n : Nat) (acc : List UInt8) (a : Nat), (unqK l n acc a).2.2 = 0 → a ≤ (unqK l n acc a).2.1
 | [], n, acc, a, h => by simp [unqK] at h
 | c :: r, k + 1, acc, a, h => by rw [unqK] at h ⊢; exact unqK_pos r k acc a h
 | c :: r, 0, acc, a, h => by
  simp only [unqK] at h ⊢
  split
  ·rename_i h1; rw [if_pos h1] at h; simp at h
  ·rename_i h1; rw [if_neg h1] at h
   split
   ·rename_i h2; rw [if_pos h2] at h
    split
    ·rename_i h3; rw [if_pos h3] at h; simp at h
    ·simp
   ·rename_i h2; rw [if_neg h2] at h
    split
    ·rename_i h3; rw [if_pos h3] at h
     split
     ·rename_i h4; rw [if_pos h4] at h; simp only at h; exact absurd h h4
     ·rename_i h4; rw [if_neg h4] at h
      have := unqK_pos r (escP r).2.2 _ _ h
      omega
    ·rename_i h3; rw [if_neg h3] at h
     split
     ·rename_i h4; rw [if_pos h4] at h; simp at h
     ·rename_i h4; rw [if_neg h4] at h
      have := unqK_pos r 0 _ _ h
      omega
theorem unq_pos (c : UInt8) (r : List UInt8) (hq : c = 34) (he : (unq (c :: r)).2.2 = 0) : 1 ≤ (unq (c :: r)).2.1 := by
 rw [unq, if_neg (by simp [hq])] at he ⊢
 exact unqK_pos r 0 [] 1 he
theorem takeWhile_len (p : UInt8 → Bool) (l : List UInt8) : (l.takeWhile p).length ≤ l.length := (List.takeWhile_prefix p).length_le
theorem tokP_len (l : List UInt8) (h : (tokP l).1 = 0) : (tokP l).2.2 ≤ l.length ∧ ((tokP l).2.1.k = 0 → l = []) ∧ (l ≠ [] → 1 ≤ (tokP l).2.2) := by
 cases l with
 | nil => simp [tokP]
 | cons c r =>
  unfold tokP at h ⊢
  simp only at h ⊢
  have h1 : ∀ p : UInt8 → Bool, p c = true → 1 ≤ ((c :: r).takeWhile p).length := by
   intro p hp; rw [List.takeWhile_cons, if_pos hp]; simp
  split
  ·rename_i hd
   rw [if_pos hd] at h
   split
   ·exact ⟨takeWhile_len _ _, by simp, fun _ => h1 _ hd⟩
   ·rename_i hb; rw [if_neg hb] at h; simp at h
  ·rename_i hd
   rw [if_neg hd] at h
   split
   ·rename_i hq
    rw [if_pos hq] at h
    split
    ·rename_i he
     refine ⟨unq_len _, by simp, fun _ => ?_⟩
     have := unq_pos c r hq he
     exact this
    ·rename_i he; rw [if_neg he] at h; exact absurd h he
   ·rename_i hq
    rw [if_neg hq] at h
    split
    ·rename_i hn
     rw [if_pos hn] at h
     split
     ·rename_i hb; rw [if_pos hb] at h; simp at h
     ·refine ⟨takeWhile_len _ _, ?_, fun _ => h1 _ ?_⟩
      ·intro hk
       have : ∀ w : List UInt8, w ≠ [] → nameKind w ≠ 0 := by
        intro w hw
        cases w with
        | nil => exact absurd rfl hw
        | cons x y => simp only [nameKind]; split <;> (try split) <;> decide
       have hi : innerB c = true := by
        simp only [innerB, isInner, smallB, largeB, Bool.or_eq_true] at hn ⊢
        exact hn.elim .inl fun h => .inr (.inl h)
       have := this ((c :: r).takeWhile innerB) (by rw [List.takeWhile_cons, if_pos hi]; simp)
       exact absurd hk this
      ·simp only [innerB, isInner, smallB, largeB, Bool.or_eq_true] at hn ⊢
       exact hn.elim .inl fun h => .inr (.inl h)
    ·rename_i hn
     rw [if_neg hn] at h
     split
     ·split
      ·rename_i h2
       refine ⟨?_, by simp, by simp⟩
       have := congrArg List.length h2
       simp at this ⊢
       omega
      ·simp
     ·rename_i hg
      rw [if_neg hg] at h; simp at h
theorem tokens_call (s : List UInt8) (h : Hp) (c : Nat) (d : List (Nat × List AV)) :
  Does X 17 [.str s] ⟨h, c, d⟩ fun v s' => ∃ o, v = .tuple [.slice o ((Toks s).1.map tkV), .int .i64 ((Toks s).2.1 : Int), .int .i64 (Toks s).2.2] ∧ ∃ h' c', s' = ⟨h', c', d⟩ ∧ Fr h c h' c' [] := by
 refine call_aw b17 rfl rfl rfl ?_; delta b17
 simp -dsimp -implicitDefEqProofs only [go_sem, Nat.reduceAdd, Nat.reduceEqDiff, reduceIte, reduceCtorEq, Nat.reduceLeDiff, Nat.reduceLT, Nat.reduceSub, Int.reduceEq, Int.reduceLT]
 refine CondV_split (fun hc => ?_) fun hc => ?_
 ·have hl : 2000 < s.length := by simp at hc; omega
  simp -dsimp -implicitDefEqProofs only [go_sem, Nat.reduceAdd, Nat.reduceEqDiff, reduceIte, reduceCtorEq, Nat.reduceLeDiff, Nat.reduceLT, Nat.reduceSub, Int.reduceEq, Int.reduceLT]
  rw [Toks, if_pos hl]
  exact ⟨_, rfl, _, _, rfl, Fr.refl _ _ _⟩
 ·have hl : ¬ 2000 < s.length := by simp at hc; omega
  rw [Toks, if_neg hl]
  simp -dsimp -implicitDefEqProofs only [go_sem, Nat.reduceAdd, Nat.reduceEqDiff, reduceIte, reduceCtorEq, Nat.reduceLeDiff, Nat.reduceLT, Nat.reduceSub, Int.reduceEq, Int.reduceLT, fillV, boxV]
  let I : Nat → AEnv → ASt → Prop := fun m e st => ∃ (j : Nat) (acc : List (Tk × Nat)) (i : Option Nat) (H : Hp) (C : Nat), s.length + 1 - j ≤ m ∧ j ≤ s.length ∧ acc.length ≤ j ∧ toksP s m j acc = toksP s (s.length + 1) 0 [] ∧ Fr h c H C [] ∧ OwnH H 4 i (acc.map tkV) ∧ (∀ k, i = some k → c < k ∧ k < C) ∧ H c = some (rdr s j) ∧ c < C ∧
   e.get 5 = .ptr c 0 ∧ e.get 6 = ownV i (acc.map tkV) ∧ st = ⟨H, C, []⟩
  refine LoopK_rule I (s.length + 1) ⟨0, [], none, _, _, Nat.le_refl _, Nat.zero_le _, by simp, rfl, (Fr.refl _ _ _).upd _ (.inr (Nat.le_refl _)) (Nat.le_succ _), rfl, by simp, upd_same _ _ _, Nat.lt_succ_self _, rfl, rfl, rfl⟩ ?_
  rintro f e st ⟨j, acc, i, H, C, hf, hj, hacc, hst, hfr, how, hi, hr, hcC, g5, g6, rfl⟩
  obtain ⟨f, rfl⟩ : ∃ g, f = g + 1 := ⟨f - 1, by omega⟩
  rw [toksP] at hst
  generalize ha : j + skipM false (s.drop j) = a at hst
  simp -dsimp -implicitDefEqProofs only [go_sem, Nat.reduceAdd, Nat.reduceEqDiff, reduceIte, reduceCtorEq, Nat.reduceLeDiff, Nat.reduceLT, Nat.reduceSub, Int.reduceEq, Int.reduceLT, preH, g5, g6]
  have hcC' : c ≠ C := by omega
  refine DoesK_of (next_call s (by omega) c j hj _ _ _ (by omega) (by rw [upd_ne _ _ hcC']; exact hr) a ha.symm) ?_
  rintro v s' ⟨k, w, n, H1, C1, rfl, rfl, f1, hres⟩
  have hz : H1 C = some (.cells zeroT) := (f1.at (Nat.lt_succ_self _) (by simp; omega)).trans (upd_same _ _ _)
  have hal : a ≤ s.length := by
   have := skipM_le false (s.drop j)
   rw [List.length_drop] at this; omega
  generalize hp : tokP (s.drop a) = p at *
  have htl := tokP_len (s.drop a)
  rw [hp, List.length_drop] at htl
  obtain ⟨p1, ⟨pk, pt, pn⟩, pl⟩ := p
  simp only at hst hres htl
  by_cases he : p1 = 0
  ·rw [if_neg (by simp [he])] at hst
   obtain ⟨rfl, rfl, rfl, hr1⟩ := hres he
   subst he
   obtain ⟨hl1, hl2, hl3⟩ := htl rfl
   have hT : tokC k w n a = [.int .i64 k, .str w, .int .i64 n, .int .i64 (a : Int)] := rfl
   have hH2 : ∀ k', i = some k' → upd H1 C (.cells (tokC k w n a)) k' = H k' := by
    intro k' hk
    obtain ⟨h1, h2⟩ := hi k' hk
    rw [upd_ne _ _ (by omega), f1.at (by omega) (by simp; omega), upd_ne _ _ (by omega)]
   have happ : appK C1 0 4 40 ⟨upd H1 C (.cells [.int .i64 k, .str w, .int .i64 n, .int .i64 (a : Int)]), C1 + 1, []⟩ (ownV i (acc.map tkV)) (.slice .full [.agg [.int .i64 k, .str w, .int .i64 n, .int .i64 (a : Int)]]) = some (ownV (some (i.getD C1)) ((acc ++ [((⟨k, w, n⟩ : Tk), a)]).map tkV), ⟨upd (upd H1 C (.cells [.int .i64 k, .str w, .int .i64 n, .int .i64 (a : Int)])) (i.getD C1) (.arr (acc.length + 1) 4), C1 + 1, []⟩) := by
    have := @appK_one C1 0 4 40 (upd H1 C (.cells (tokC k w n a))) (C1 + 1) [] i (acc.map tkV) (tkV ((⟨k, w, n⟩ : Tk), a)) .full (how.keep hH2) rfl (by simp; omega)
    simp only [List.length_map, Nat.add_zero] at this
    rw [List.map_append]
    exact this
   have hCC1 := f1.le
   have hci : c < i.getD C1 ∧ i.getD C1 < C1 + 1 := by
    cases hi' : i with
    | none => simp; omega
    | some k' => have := hi k' hi'; simp; omega
   have hc2 : upd (upd H1 C (.cells [.int .i64 k, .str w, .int .i64 n, .int .i64 (a : Int)])) (i.getD C1) (.arr (acc.length + 1) 4) C = some (.cells [.int .i64 k, .str w, .int .i64 n, .int .i64 (a : Int)]) := by
    rw [upd_ne, upd_same]
    cases hi' : i with
    | none => simp; omega
    | some k' => have := hi k' hi'; simp; omega
   have hfr2 : Fr h c (upd (upd H1 C (.cells [.int .i64 k, .str w, .int .i64 n, .int .i64 (a : Int)])) (i.getD C1) (.arr (acc.length + 1) 4)) (C1 + 1) [] :=
    ((((hfr.upd _ (.inr (Nat.le_of_lt hcC)) (Nat.le_succ _)).trans f1 (by simp)).upd _ (.inr (Nat.le_of_lt hcC)) (Nat.le_refl _)).upd _ (.inr (by omega)) (Nat.le_succ _))
   simp -dsimp -implicitDefEqProofs only [go_sem, Nat.reduceAdd, Nat.reduceEqDiff, reduceIte, reduceCtorEq, Nat.reduceLeDiff, Nat.reduceLT, Nat.reduceSub, Int.reduceEq, Int.reduceLT, OpK_alloc, hz, zeroT, tokC, ldCells, partsV, g5, g6, happ, hc2]
   refine CondV_split (fun hq => ?_) fun hq => ?_
   ·have hk : k = 0 := by simpa using hq
    rw [if_pos hk] at hst
    simp -dsimp -implicitDefEqProofs only [go_sem, Nat.reduceAdd, Nat.reduceEqDiff, reduceIte, reduceCtorEq, Nat.reduceLeDiff, Nat.reduceLT, Nat.reduceSub, Int.reduceEq, Int.reduceLT, g5, ownV]
    rw [← hst]
    exact ⟨_, rfl, _, _, rfl, hfr2⟩
   ·have hk : k ≠ 0 := by simpa using hq
    rw [if_neg hk] at hst
    simp -dsimp -implicitDefEqProofs only [go_sem, Nat.reduceAdd, Nat.reduceEqDiff, reduceIte, reduceCtorEq, Nat.reduceLeDiff, Nat.reduceLT, Nat.reduceSub, Int.reduceEq, Int.reduceLT, g5]
    have hne : s.drop a ≠ [] := by
     intro e0
     rw [e0] at hp
     simp only [tokP, Prod.mk.injEq, Tk.mk.injEq] at hp
     exact hk hp.2.1.1.symm
    have h1pl := hl3 hne
    have haj : j ≤ a := by omega
    refine Again.of f (by omega) ⟨a + pl, acc ++ [(⟨k, w, n⟩, a)], some (i.getD C1), _, _, by omega, by omega, by simp; omega, hst, hfr2, ?_, ?_, ?_, by omega, g5, rfl, rfl⟩
    ·simp [OwnH, upd_same]
    ·rintro k' hk'; injection hk' with hk'; subst hk'; exact hci
    ·rw [upd_ne _ _ (by omega), upd_ne _ _ hcC', hr1]
  ·rw [if_pos he] at hst
   simp -dsimp -implicitDefEqProofs only [go_sem, Nat.reduceAdd, Nat.reduceEqDiff, reduceIte, reduceCtorEq, Nat.reduceLeDiff, Nat.reduceLT, Nat.reduceSub, Int.reduceEq, Int.reduceLT, OpK_alloc, hz, zeroT, tokC, he]
   rw [← hst]
   exact ⟨_, rfl, _, _, rfl, ((hfr.upd _ (.inr (Nat.le_of_lt hcC)) (Nat.le_succ _)).trans f1 (by simp)).upd _ (.inr (Nat.le_of_lt hcC)) (Nat.le_refl _)⟩
theorem idx_slice_0 (sz : Nat) (k : IntKind) (o : Own) (es : List AV) : idxV sz (.int k 0) (.slice o es) = elemA sz es[0]? := idx_slice sz k 0 o es
theorem idx_slice_1 (sz : Nat) (k : IntKind) (o : Own) (es : List AV) : idxV sz (.int k 1) (.slice o es) = elemA sz es[1]? := idx_slice sz k 1 o es
theorem idx_slice_2 (sz : Nat) (k : IntKind) (o : Own) (es : List AV) : idxV sz (.int k 2) (.slice o es) = elemA sz es[2]? := idx_slice sz k 2 o es
theorem idx_slice_3 (sz : Nat) (k : IntKind) (o : Own) (es : List AV) : idxV sz (.int k 3) (.slice o es) = elemA sz es[3]? := idx_slice sz k 3 o es
theorem tokens_is {s : List UInt8} {l : List (Tk × Nat)} {a : Nat} {e : Int} (hT : Toks s = (l, a, e)) (h : Hp) (c : Nat) (d : List (Nat × List AV)) :
  Does X 17 [.str s] ⟨h, c, d⟩ fun v s' => ∃ o, v = .tuple [.slice o (l.map tkV), .int .i64 (a : Int), .int .i64 e] ∧ ∃ h' c', s' = ⟨h', c', d⟩ ∧ Fr h c h' c' [] := by
 have := tokens_call s h c d
 rw [hT] at this
 exact this
end Go.Proofs.YtdohdncgjendkaaDoor
