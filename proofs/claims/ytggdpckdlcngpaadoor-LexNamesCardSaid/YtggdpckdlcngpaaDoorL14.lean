/- One token. -/
import Derived.Test.YtggdpckdlcngpaaDoorL13
set_option linter.unusedVariables false
set_option linter.unusedSimpArgs false
namespace Go.Proofs.YtggdpckdlcngpaaDoor
open Abs Go.RowKit

def smallB (c : UInt8) : Bool := isSmall c.toNat
def signsText : List UInt8 := [61, 60, 43, 45, 42, 47, 37, 94, 59, 124, 40, 41, 44, 95]
def signB (c : UInt8) : Bool := decide (Lib.indexByte signsText c ≥ 0)

structure Tk where
  k : Int
  t : List UInt8
  n : Int

/-- The token that a text begins with: an error, the token, how many bytes it has. -/
def tokP : List UInt8 → Int × Tk × Nat
  | [] => (0, ⟨0, [], 0⟩, 0)
  | c :: r => if digitB c = true then (if decV 0 ((c :: r).takeWhile digitB) ≤ 4611686018427387903 then (0, ⟨1, [], (decV 0 ((c :: r).takeWhile digitB) : Nat)⟩, ((c :: r).takeWhile digitB).length) else (13, ⟨0, [], 0⟩, 0))
    else if c = 34 then (if (unq (c :: r)).2.2 = 0 then (0, ⟨2, (unq (c :: r)).1, 0⟩, (unq (c :: r)).2.1) else ((unq (c :: r)).2.2, ⟨0, [], 0⟩, 0))
    else if (smallB c || largeB c) = true then (if 16 < ((c :: r).takeWhile innerB).length then (12, ⟨0, [], 0⟩, 0) else (0, ⟨nameKind ((c :: r).takeWhile innerB), (c :: r).takeWhile innerB, 0⟩, ((c :: r).takeWhile innerB).length))
    else if signB c = true then (if (c :: r).take 2 = [45, 62] then (0, ⟨5, (c :: r).take 2, 0⟩, 2) else (0, ⟨5, (c :: r).take 1, 0⟩, 1))
    else (10, ⟨0, [], 0⟩, 0)

theorem text_call (s : List UInt8) (hs : s.length < 4294967281) (r t i : Nat) (hi : i ≤ s.length) (h : Hp) (c : Nat) (d : List (Nat × List AV)) (hrc : r < c) (htc : t < c) (hr : h r = some (rdr s i)) (hrt : r ≠ t) (a : Nat) (ht : h t = some (tokO 0 [] 0 a)) (hn : (unq (s.drop i)).2.1 < 4294967281) :
    Does X 26 [.ptr r 0, .ptr t 0] ⟨h, c, d⟩ fun v s' => v = .int .i64 (unq (s.drop i)).2.2 ∧ ∃ h' c', s' = ⟨h', c', d⟩ ∧ Fr h c h' c' [r, t] ∧ h' r = some (rdr s (i + (unq (s.drop i)).2.1)) ∧ h' t = some (tokO 2 (unq (s.drop i)).1 0 a) := by
  refine call_aw b26 rfl rfl rfl ?_; delta b26
  simp -dsimp -implicitDefEqProofs only [go_sem, Nat.reduceAdd, Nat.reduceEqDiff, reduceIte, reduceCtorEq, Nat.reduceLeDiff, Nat.reduceLT, Nat.reduceSub, Int.reduceEq, Int.reduceLT, hr, rdr, hi]
  refine DoesK_of (unq_call (s.drop i) (by simp; omega) _ _ _) ?_
  rintro v s' ⟨rfl, h1, c1, rfl, f1⟩
  have hr1 : h1 r = some (rdr s i) := (f1.at hrc (by simp)).trans hr
  have ht1 : h1 t = some (tokO 0 [] 0 a) := (f1.at htc (by simp)).trans ht
  have hu : ∀ h o, upd h t o r = h r := fun h o => upd_ne h o hrt
  generalize unq (s.drop i) = p at *
  obtain ⟨p1, p2, p3⟩ := p
  simp only at hn
  have w : IntKind.wrap .i64 ((i : Int) + (p2 : Int)) = ((i + p2 : Nat) : Int) := by rw [wrap_i64 (by omega) (by omega)]; omega
  simp -dsimp -implicitDefEqProofs only [go_sem, Nat.reduceAdd, Nat.reduceEqDiff, reduceIte, reduceCtorEq, Nat.reduceLeDiff, Nat.reduceLT, Nat.reduceSub, Int.reduceEq, Int.reduceLT, unqA, hr1, ht1, tokO, tokC, rdr, hu, w]
  refine ⟨_, _, rfl, ((f1.wide (by simp)).upd _ (.inl (by simp)) (Nat.le_refl _)).upd _ (.inl (by simp)) (Nat.le_refl _), ?_, ?_⟩
  · rw [upd_same]
  · rw [upd_ne _ _ (Ne.symm hrt), upd_same]

theorem unqK_len : ∀ (l : List UInt8) (n : Nat) (acc : List UInt8) (a : Nat), (unqK l n acc a).2.1 ≤ a + l.length
  | [], n, acc, a => by simp [unqK]
  | c :: r, k + 1, acc, a => by rw [unqK]; have := unqK_len r k acc a; simp; omega
  | c :: r, 0, acc, a => by
    simp only [unqK]
    split
    · simp
    · split
      · split
        · simp
        · first | (simp; done) | (simp; omega)
      · split
        · split
          · simp
          · rename_i h1
            have he : (escP r).1 = 0 := by simpa using h1
            obtain ⟨h2, h3⟩ := escP_ok r he
            rw [unqK_drop]
            have := unqK_len (r.drop (escP r).2.2) 0 (acc ++ [(escP r).2.1]) (a + 1 + (escP r).2.2)
            simp at this ⊢; omega
        · split
          · simp
          · have := unqK_len r 0 (acc ++ [c]) (a + 1)
            simp; omega
termination_by l => l.length

theorem unq_len (l : List UInt8) : (unq l).2.1 ≤ l.length := by
  cases l with
  | nil => simp [unq]
  | cons c r =>
    rw [unq]; split
    · simp
    · have := unqK_len r 0 [] 1
      simp; omega

end Go.Proofs.YtggdpckdlcngpaaDoor
