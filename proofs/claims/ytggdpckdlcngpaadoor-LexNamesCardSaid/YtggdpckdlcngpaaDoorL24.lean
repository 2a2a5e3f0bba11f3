/- LexPlaces: the walk. -/
import Derived.Test.YtggdpckdlcngpaaDoorL23
set_option linter.unusedVariables false
set_option linter.unusedSimpArgs false
namespace Go.Proofs.YtggdpckdlcngpaaDoor
open Abs Go.RowKit

theorem places_at {n : Nat} {l : List (Tk × Nat)} (hr : Rise n n l) {j : Nat} (hj : j < l.length + 1) : ∃ (p : Tk × Nat) (b : Bool), (l ++ [((⟨0, [], 0⟩ : Tk), n)])[j]? = some p ∧ decide (p.1.k = 0) = b ∧ decide (j = l.length) = b ∧ decide (p.2 = n) = b ∧
    (j ≠ 0 → ∃ p', (l ++ [((⟨0, [], 0⟩ : Tk), n)])[j - 1]? = some p' ∧ p'.2 < p.2) := by
  rcases Nat.lt_or_ge j l.length with h | h
  · have hg := List.getElem?_eq_getElem h
    obtain ⟨h1, h2, h3, h4⟩ := hr j _ hg
    refine ⟨l[j], false, by rw [List.getElem?_append_left h]; exact hg, by simpa using h1, by simp; omega, by simp; omega, fun h0 => ?_⟩
    have h' : j - 1 < l.length := by omega
    exact ⟨l[j - 1], by rw [List.getElem?_append_left h']; exact List.getElem?_eq_getElem h', h4 (j - 1) _ (by omega) (List.getElem?_eq_getElem h')⟩
  · have hj' : j = l.length := by omega
    subst hj'
    refine ⟨(⟨0, [], 0⟩, n), true, by simp, rfl, by simp, by simp, fun h0 => ?_⟩
    have h' : l.length - 1 < l.length := by omega
    have hg := List.getElem?_eq_getElem h'
    exact ⟨_, by rw [List.getElem?_append_left h']; exact hg, (hr _ _ hg).2.2.1⟩

set_option maxHeartbeats 2000000 in
theorem placesLaw (s : List UInt8) : Does X 6 [.str s] s0 fun v _ => v = .bool true := by
  refine call_aw b6 rfl rfl rfl ?_; delta b6
  simp -dsimp -implicitDefEqProofs only [go_sem, Nat.reduceAdd, Nat.reduceEqDiff, reduceIte, reduceCtorEq, Nat.reduceLeDiff, Nat.reduceLT, Nat.reduceSub, Int.reduceEq, Int.reduceLT]
  refine DoesK_of (few_call _ _) ?_
  rintro v s' ⟨rfl, rfl⟩
  simp -dsimp -implicitDefEqProofs only [go_sem, Nat.reduceAdd, Nat.reduceEqDiff, reduceIte, reduceCtorEq, Nat.reduceLeDiff, Nat.reduceLT, Nat.reduceSub, Int.reduceEq, Int.reduceLT]
  generalize hS : s.take 300 = S
  have hS300 : S.length ≤ 300 := by rw [← hS]; simp; omega
  have hrise := Toks_rise S
  have hlen := Toks_len S
  refine DoesK_of (tokens_call _ _ _ _) ?_
  generalize hT : Toks S = T at hrise hlen
  obtain ⟨tl, ta, te⟩ := T
  rintro v s' ⟨o, rfl, h1, c1, rfl, f1⟩
  simp only at hrise hlen
  simp -dsimp -implicitDefEqProofs only [go_sem, Nat.reduceAdd, Nat.reduceEqDiff, reduceIte, reduceCtorEq, Nat.reduceLeDiff, Nat.reduceLT, Nat.reduceSub, Int.reduceEq, Int.reduceLT]
  refine CondV_split (fun he => ?_) fun he => ?_
  · have he' : te ≠ 0 := by simpa using he
    have hnil := hrise.1 he'
    subst hnil
    simp -dsimp -implicitDefEqProofs only [go_sem, Nat.reduceAdd, Nat.reduceEqDiff, reduceIte, reduceCtorEq, Nat.reduceLeDiff, Nat.reduceLT, Nat.reduceSub, Int.reduceEq, Int.reduceLT, CondV_true, Int.cast_ofNat_Int]
    refine DoesK_of (lives_call _ _ _) ?_
    rintro v s' ⟨rfl, h', c', rfl, f⟩
    simp -dsimp -implicitDefEqProofs only [go_sem, Nat.reduceAdd, Nat.reduceEqDiff, reduceIte, reduceCtorEq, Nat.reduceLeDiff, Nat.reduceLT, Nat.reduceSub, Int.reduceEq, Int.reduceLT]
  · have he' : te = 0 := by simpa using he
    obtain ⟨_, l, rfl, hr⟩ := hrise.2 he'
    have hlm : ((l ++ [((⟨0, [], 0⟩ : Tk), S.length)]).map tkV).length = l.length + 1 := by simp
    have hll : l.length ≤ S.length := by simpa using hlen
    have hl0 : decide (((l.length + 1 : Nat) : Int) = 0) = false := by simp; omega
    simp -dsimp -implicitDefEqProofs only [go_sem, Nat.reduceAdd, Nat.reduceEqDiff, reduceIte, reduceCtorEq, Nat.reduceLeDiff, Nat.reduceLT, Nat.reduceSub, Int.reduceEq, Int.reduceLT, hlm, hl0]
    generalize hG : l ++ [((⟨0, [], 0⟩ : Tk), S.length)] = G at hlm
    let I : Nat → AEnv → ASt → Prop := fun m e st => ∃ j : Nat, m = l.length + 1 - j ∧ j ≤ l.length + 1 ∧ e.get 0 = .str S ∧ e.get 3 = .slice o (G.map tkV) ∧ e.get 6 = .int .i64 (j : Int) ∧ st = ⟨h1, c1, []⟩
    refine LoopK_rule I (l.length + 1) ⟨0, rfl, Nat.zero_le _, rfl, rfl, rfl, rfl⟩ ?_
    rintro m e st ⟨j, rfl, hj, g0, g3, g6, rfl⟩
    simp -dsimp -implicitDefEqProofs only [go_sem, Nat.reduceAdd, Nat.reduceEqDiff, reduceIte, reduceCtorEq, Nat.reduceLeDiff, Nat.reduceLT, Nat.reduceSub, Int.reduceEq, Int.reduceLT, g3, g6, hlm]
    refine CondV_split (fun hc => ?_) fun hc => ?_
    · have hj' : j < l.length + 1 := by simp at hc; omega
      obtain ⟨⟨⟨k, t, n⟩, a⟩, b, hg, e1, e2, e3, h4⟩ := places_at hr hj'
      rw [hG] at hg h4
      simp only at e1 e3
      have w1 : IntKind.wrap .i64 (((l.length + 1 : Nat) : Int) - 1) = (l.length : Int) := by rw [wrap_i64 (by omega) (by omega)]; omega
      have d2 : decide ((j : Int) = (l.length : Int)) = b := by rw [← e2, decide_eq_decide]; omega
      have d3 : decide ((a : Int) = (S.length : Int)) = b := by rw [← e3, decide_eq_decide]; omega
      have again : ∀ e' : AEnv, e'.get 0 = .str S → e'.get 3 = .slice o (G.map tkV) → e'.get 6 = .int .i64 (IntKind.wrap .i64 ((j : Int) + 1)) → Again I .mk (l.length + 1 - j) e' ⟨h1, c1, []⟩ := by
        intro e' a0 a3 a6
        refine Again.of (l.length + 1 - (j + 1)) (by omega) ⟨j + 1, rfl, by omega, a0, a3, ?_, rfl⟩
        rw [a6, wrap_i64 (by omega) (by omega)]; rfl
      by_cases hj0 : j = 0
      · have dg : decide ((j : Int) > 0) = false := by simp; omega
        cases b <;> simp -dsimp -implicitDefEqProofs only [go_sem, Nat.reduceAdd, Nat.reduceEqDiff, reduceIte, reduceCtorEq, Nat.reduceLeDiff, Nat.reduceLT, Nat.reduceSub, Int.reduceEq, Int.reduceLT, g0, g3, g6, hlm, w1, d2, d3, dg, e1, hg, tkV, tokC, elemA, eqKey, eqT, CondV_true, CondV_false, decide_true, decide_false, Bool.bne_false, Bool.bne_true] <;> exact again _ g0 g3 rfl
      · obtain ⟨⟨⟨k', t', n'⟩, a'⟩, hg', hlt⟩ := h4 hj0
        simp only at hlt
        have dg : decide ((j : Int) > 0) = true := by simp; omega
        have w2 : IntKind.wrap .i64 ((j : Int) - 1) = ((j - 1 : Nat) : Int) := by rw [wrap_i64 (by omega) (by omega)]; omega
        have dl : decide ((a : Int) ≤ (a' : Int)) = false := by simp; omega
        cases b <;> simp -dsimp -implicitDefEqProofs only [go_sem, Nat.reduceAdd, Nat.reduceEqDiff, reduceIte, reduceCtorEq, Nat.reduceLeDiff, Nat.reduceLT, Nat.reduceSub, Int.reduceEq, Int.reduceLT, g0, g3, g6, hlm, w1, w2, d2, d3, dg, dl, e1, hg, hg', tkV, tokC, elemA, eqKey, eqT, CondV_true, CondV_false, decide_true, decide_false, Bool.bne_false, Bool.bne_true] <;> exact again _ g0 g3 rfl
    · simp -dsimp -implicitDefEqProofs only [go_sem, Nat.reduceAdd, Nat.reduceEqDiff, reduceIte, reduceCtorEq, Nat.reduceLeDiff, Nat.reduceLT, Nat.reduceSub, Int.reduceEq, Int.reduceLT]
      refine DoesK_of (lives_call _ _ _) ?_
      rintro v s' ⟨rfl, h', c', rfl, f⟩
      simp -dsimp -implicitDefEqProofs only [go_sem, Nat.reduceAdd, Nat.reduceEqDiff, reduceIte, reduceCtorEq, Nat.reduceLeDiff, Nat.reduceLT, Nat.reduceSub, Int.reduceEq, Int.reduceLT]

end Go.Proofs.YtggdpckdlcngpaaDoor
