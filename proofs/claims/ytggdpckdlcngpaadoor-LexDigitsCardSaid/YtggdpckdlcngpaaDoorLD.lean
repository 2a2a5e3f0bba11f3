/- Tokens stand one behind the other. LexPlaces: the walk. LexLong: the walk. LexNames: the walk. LexDigits: the walk. LexDigits: the law's walk. -/
import Derived.Test.YtggdpckdlcngpaaDoorLC
set_option linter.unusedVariables false
set_option linter.unusedSimpArgs false
namespace Go.Proofs.YtggdpckdlcngpaaDoor
open Abs Go.RowKit

/-- Tokens that stand one behind the other, ahead of a place. -/
def Rise (n i : Nat) (l : List (Tk × Nat)) : Prop := ∀ (j : Nat) (p : Tk × Nat), l[j]? = some p → p.1.k ≠ 0 ∧ p.2 < i ∧ p.2 < n ∧ ∀ (j' : Nat) (p' : Tk × Nat), j' < j → l[j']? = some p' → p'.2 < p.2

theorem Rise.nil (n i : Nat) : Rise n i [] := fun j p h => by simp at h
theorem Rise.snoc {n i i' : Nat} {l : List (Tk × Nat)} (h : Rise n i l) (t : Tk) (a : Nat) (hk : t.k ≠ 0) (ha : i ≤ a) (hn : a < n) (hi : a < i') : Rise n i' (l ++ [(t, a)]) := by
  intro j p hp
  rcases Nat.lt_or_ge j l.length with hj | hj
  · rw [List.getElem?_append_left hj] at hp
    obtain ⟨h1, h2, h3, h4⟩ := h j p hp
    refine ⟨h1, by omega, h3, fun j' p' hj' hp' => ?_⟩
    rw [List.getElem?_append_left (by omega)] at hp'
    exact h4 j' p' hj' hp'
  · rw [List.getElem?_append_right hj] at hp
    have : j - l.length = 0 := by
      rcases Nat.eq_zero_or_pos (j - l.length) with h0 | h0
      · exact h0
      · rw [List.getElem?_eq_none (by simp; omega)] at hp; cases hp
    rw [this] at hp
    simp at hp
    subst hp
    refine ⟨hk, hi, hn, fun j' p' hj' hp' => ?_⟩
    rw [List.getElem?_append_left (by omega)] at hp'
    have := (h j' p' hp').2.1
    simp only; omega

theorem toksP_rise (s : List UInt8) : ∀ (f i : Nat) (acc : List (Tk × Nat)), s.length + 1 - i ≤ f → i ≤ s.length → Rise s.length i acc →
    ((toksP s f i acc).2.2 ≠ 0 → (toksP s f i acc).1 = []) ∧ ((toksP s f i acc).2.2 = 0 → (toksP s f i acc).2.1 = 0 ∧ ∃ l, (toksP s f i acc).1 = l ++ [((⟨0, [], 0⟩ : Tk), s.length)] ∧ Rise s.length s.length l) := by
  intro f
  induction f with
  | zero => intro i acc hf hi; omega
  | succ f ih =>
    intro i acc hf hi hr
    have hsk := skipM_le false (s.drop i)
    rw [List.length_drop] at hsk
    have htl := tokP_len (s.drop (i + skipM false (s.drop i)))
    rw [List.length_drop] at htl
    simp only [toksP]
    split
    · rename_i he; exact ⟨fun _ => rfl, fun e => absurd e he⟩
    · rename_i he
      obtain ⟨h1, h2, h3⟩ := htl (by simpa using he)
      split
      · rename_i hk
        refine ⟨fun e => absurd rfl e, fun _ => ⟨rfl, acc, ?_, fun j p hp => ?_⟩⟩
        · have hd := h2 hk
          have : i + skipM false (s.drop i) = s.length := by
            have := congrArg List.length hd
            simp at this; omega
          rw [this, List.drop_length]; simp [tokP]
        · obtain ⟨q1, q2, q3, q4⟩ := hr j p hp
          exact ⟨q1, by omega, q3, q4⟩
      · rename_i hk
        have hne : s.drop (i + skipM false (s.drop i)) ≠ [] := by
          intro e0; rw [e0] at hk; simp [tokP] at hk
        have hlt : i + skipM false (s.drop i) < s.length := by
          rcases Nat.lt_or_ge (i + skipM false (s.drop i)) s.length with h' | h'
          · exact h'
          · exact absurd (List.drop_eq_nil_of_le h') hne
        have := h3 hne
        exact ih _ _ (by omega) (by omega) (hr.snoc _ _ hk (Nat.le_add_right _ _) hlt (by omega))

theorem Toks_rise (s : List UInt8) : ((Toks s).2.2 ≠ 0 → (Toks s).1 = []) ∧ ((Toks s).2.2 = 0 → (Toks s).2.1 = 0 ∧ ∃ l, (Toks s).1 = l ++ [((⟨0, [], 0⟩ : Tk), s.length)] ∧ Rise s.length s.length l) := by
  rw [Toks]
  split
  · exact ⟨fun _ => rfl, fun e => by simp at e⟩
  · exact toksP_rise s _ 0 [] (by omega) (Nat.zero_le _) (Rise.nil _ _)

end Go.Proofs.YtggdpckdlcngpaaDoor

set_option linter.unusedVariables false
set_option linter.unusedSimpArgs false
namespace Go.Proofs.YtggdpckdlcngpaaDoor
open Abs Go.RowKit

theorem places_at {n : Nat} {l : List (Tk × Nat)} (hr : Rise n n l) {j : Nat} (hj : j < l.length + 1) : ∃ (p : Tk × Nat) (b : Bool), (l ++ [((⟨0, [], 0⟩ : Tk), n)])[j]? = some p ∧ decide (p.1.k = 0) = b ∧ decide (j = l.length) = b ∧ decide (p.2 = n) = b ∧
    (j ≠ 0 → ∃ p', (l ++ [((⟨0, [], 0⟩ : Tk), n)])[j - 1]? = some p' ∧ p'.2 < p.2) := by
  rcases Nat.lt_or_ge j l.length with h | h
  · have hg := List.getElem?_eq_getElem h
    obtain ⟨h1, h2, h3, h4⟩ := hr j _ hg
    refine ⟨l[j], false, by rw [List.getElem?_append_left h]; exact hg, by simpa using h1, by simp; omega, by simp; omega, fun h0 => ?_⟩
    have h' : j - 1 < l.length := by omega
    exact ⟨l[j - 1], by rw [List.getElem?_append_left h']; exact List.getElem?_eq_getElem h', h4 (j - 1) _ (by omega) (List.getElem?_eq_getElem h')⟩
  · have hj' : j = l.length := by omega
    subst hj'
    refine ⟨(⟨0, [], 0⟩, n), true, by simp, rfl, by simp, by simp, fun h0 => ?_⟩
    have h' : l.length - 1 < l.length := by omega
    have hg := List.getElem?_eq_getElem h'
    exact ⟨_, by rw [List.getElem?_append_left h']; exact hg, (hr _ _ hg).2.2.1⟩

set_option maxHeartbeats 2000000 in
theorem placesLaw (s : List UInt8) : Does X 6 [.str s] s0 fun v _ => v = .bool true := by
  refine call_aw b6 rfl rfl rfl ?_; delta b6
  simp -dsimp -implicitDefEqProofs only [go_sem, Nat.reduceAdd, Nat.reduceEqDiff, reduceIte, reduceCtorEq, Nat.reduceLeDiff, Nat.reduceLT, Nat.reduceSub, Int.reduceEq, Int.reduceLT]
  refine DoesK_of (few_call _ _) ?_
  rintro v s' ⟨rfl, rfl⟩
  simp -dsimp -implicitDefEqProofs only [go_sem, Nat.reduceAdd, Nat.reduceEqDiff, reduceIte, reduceCtorEq, Nat.reduceLeDiff, Nat.reduceLT, Nat.reduceSub, Int.reduceEq, Int.reduceLT]
  generalize hS : s.take 300 = S
  have hS300 : S.length ≤ 300 := by rw [← hS]; simp; omega
  have hrise := Toks_rise S
  have hlen := Toks_len S
  refine DoesK_of (tokens_call _ _ _ _) ?_
  generalize hT : Toks S = T at hrise hlen
  obtain ⟨tl, ta, te⟩ := T
  rintro v s' ⟨o, rfl, h1, c1, rfl, f1⟩
  simp only at hrise hlen
  simp -dsimp -implicitDefEqProofs only [go_sem, Nat.reduceAdd, Nat.reduceEqDiff, reduceIte, reduceCtorEq, Nat.reduceLeDiff, Nat.reduceLT, Nat.reduceSub, Int.reduceEq, Int.reduceLT]
  refine CondV_split (fun he => ?_) fun he => ?_
  · have he' : te ≠ 0 := by simpa using he
    have hnil := hrise.1 he'
    subst hnil
    simp -dsimp -implicitDefEqProofs only [go_sem, Nat.reduceAdd, Nat.reduceEqDiff, reduceIte, reduceCtorEq, Nat.reduceLeDiff, Nat.reduceLT, Nat.reduceSub, Int.reduceEq, Int.reduceLT, CondV_true, Int.cast_ofNat_Int]
    refine DoesK_of (lives_call _ _ _) ?_
    rintro v s' ⟨rfl, h', c', rfl, f⟩
    simp -dsimp -implicitDefEqProofs only [go_sem, Nat.reduceAdd, Nat.reduceEqDiff, reduceIte, reduceCtorEq, Nat.reduceLeDiff, Nat.reduceLT, Nat.reduceSub, Int.reduceEq, Int.reduceLT]
  · have he' : te = 0 := by simpa using he
    obtain ⟨_, l, rfl, hr⟩ := hrise.2 he'
    have hlm : ((l ++ [((⟨0, [], 0⟩ : Tk), S.length)]).map tkV).length = l.length + 1 := by simp
    have hll : l.length ≤ S.length := by simpa using hlen
    have hl0 : decide (((l.length + 1 : Nat) : Int) = 0) = false := by simp; omega
    simp -dsimp -implicitDefEqProofs only [go_sem, Nat.reduceAdd, Nat.reduceEqDiff, reduceIte, reduceCtorEq, Nat.reduceLeDiff, Nat.reduceLT, Nat.reduceSub, Int.reduceEq, Int.reduceLT, hlm, hl0]
    generalize hG : l ++ [((⟨0, [], 0⟩ : Tk), S.length)] = G at hlm
    let I : Nat → AEnv → ASt → Prop := fun m e st => ∃ j : Nat, m = l.length + 1 - j ∧ j ≤ l.length + 1 ∧ e.get 0 = .str S ∧ e.get 3 = .slice o (G.map tkV) ∧ e.get 6 = .int .i64 (j : Int) ∧ st = ⟨h1, c1, []⟩
    refine LoopK_rule I (l.length + 1) ⟨0, rfl, Nat.zero_le _, rfl, rfl, rfl, rfl⟩ ?_
    rintro m e st ⟨j, rfl, hj, g0, g3, g6, rfl⟩
    simp -dsimp -implicitDefEqProofs only [go_sem, Nat.reduceAdd, Nat.reduceEqDiff, reduceIte, reduceCtorEq, Nat.reduceLeDiff, Nat.reduceLT, Nat.reduceSub, Int.reduceEq, Int.reduceLT, g3, g6, hlm]
    refine CondV_split (fun hc => ?_) fun hc => ?_
    · have hj' : j < l.length + 1 := by simp at hc; omega
      obtain ⟨⟨⟨k, t, n⟩, a⟩, b, hg, e1, e2, e3, h4⟩ := places_at hr hj'
      rw [hG] at hg h4
      simp only at e1 e3
      have w1 : IntKind.wrap .i64 (((l.length + 1 : Nat) : Int) - 1) = (l.length : Int) := by rw [wrap_i64 (by omega) (by omega)]; omega
      have d2 : decide ((j : Int) = (l.length : Int)) = b := by rw [← e2, decide_eq_decide]; omega
      have d3 : decide ((a : Int) = (S.length : Int)) = b := by rw [← e3, decide_eq_decide]; omega
      have again : ∀ e' : AEnv, e'.get 0 = .str S → e'.get 3 = .slice o (G.map tkV) → e'.get 6 = .int .i64 (IntKind.wrap .i64 ((j : Int) + 1)) → Again I .mk (l.length + 1 - j) e' ⟨h1, c1, []⟩ := by
        intro e' a0 a3 a6
        refine Again.of (l.length + 1 - (j + 1)) (by omega) ⟨j + 1, rfl, by omega, a0, a3, ?_, rfl⟩
        rw [a6, wrap_i64 (by omega) (by omega)]; rfl
      by_cases hj0 : j = 0
      · have dg : decide ((j : Int) > 0) = false := by simp; omega
        cases b <;> simp -dsimp -implicitDefEqProofs only [go_sem, Nat.reduceAdd, Nat.reduceEqDiff, reduceIte, reduceCtorEq, Nat.reduceLeDiff, Nat.reduceLT, Nat.reduceSub, Int.reduceEq, Int.reduceLT, g0, g3, g6, hlm, w1, d2, d3, dg, e1, hg, tkV, tokC, elemA, eqKey, eqT, CondV_true, CondV_false, decide_true, decide_false, Bool.bne_false, Bool.bne_true] <;> exact again _ g0 g3 rfl
      · obtain ⟨⟨⟨k', t', n'⟩, a'⟩, hg', hlt⟩ := h4 hj0
        simp only at hlt
        have dg : decide ((j : Int) > 0) = true := by simp; omega
        have w2 : IntKind.wrap .i64 ((j : Int) - 1) = ((j - 1 : Nat) : Int) := by rw [wrap_i64 (by omega) (by omega)]; omega
        have dl : decide ((a : Int) ≤ (a' : Int)) = false := by simp; omega
        cases b <;> simp -dsimp -implicitDefEqProofs only [go_sem, Nat.reduceAdd, Nat.reduceEqDiff, reduceIte, reduceCtorEq, Nat.reduceLeDiff, Nat.reduceLT, Nat.reduceSub, Int.reduceEq, Int.reduceLT, g0, g3, g6, hlm, w1, w2, d2, d3, dg, dl, e1, hg, hg', tkV, tokC, elemA, eqKey, eqT, CondV_true, CondV_false, decide_true, decide_false, Bool.bne_false, Bool.bne_true] <;> exact again _ g0 g3 rfl
    · simp -dsimp -implicitDefEqProofs only [go_sem, Nat.reduceAdd, Nat.reduceEqDiff, reduceIte, reduceCtorEq, Nat.reduceLeDiff, Nat.reduceLT, Nat.reduceSub, Int.reduceEq, Int.reduceLT]
      refine DoesK_of (lives_call _ _ _) ?_
      rintro v s' ⟨rfl, h', c', rfl, f⟩
      simp -dsimp -implicitDefEqProofs only [go_sem, Nat.reduceAdd, Nat.reduceEqDiff, reduceIte, reduceCtorEq, Nat.reduceLeDiff, Nat.reduceLT, Nat.reduceSub, Int.reduceEq, Int.reduceLT]

end Go.Proofs.YtggdpckdlcngpaaDoor

set_option linter.unusedVariables false
set_option linter.unusedSimpArgs false
namespace Go.Proofs.YtggdpckdlcngpaaDoor
open Abs Go.RowKit

theorem tokP_round (r : List UInt8) : tokP (40 :: r) = (0, ⟨5, [40], 0⟩, 1) := by
  have h1 : digitB 40 = false := rfl
  have h2 : (smallB 40 || largeB 40) = false := rfl
  have h3 : signB 40 = true := rfl
  rw [tokP, if_neg (by simp [h1]), if_neg (by decide), if_neg (by simp [h2]), if_pos h3, if_neg (by simp)]
  rfl

theorem toksP_rounds (m : Nat) : ∀ (f i : Nat) (acc : List (Tk × Nat)), m + 1 - i ≤ f → i ≤ m → (toksP (List.replicate m 40) f i acc).1.length = acc.length + (m - i) + 1 ∧ (toksP (List.replicate m 40) f i acc).2.2 = 0 := by
  intro f
  induction f with
  | zero => intro i acc hf hi; omega
  | succ f ih =>
    intro i acc hf hi
    simp only [toksP, List.drop_replicate]
    cases hk : m - i with
    | zero => simp [skipM, tokP, hk]
    | succ k =>
      have hsk : skipM false (List.replicate (k + 1) 40) = 0 := by rw [List.replicate_succ, skip_none (by decide) (by decide)]
      rw [hsk, Nat.add_zero, hk, List.replicate_succ, tokP_round]
      simp only
      rw [if_neg (by simp), if_neg (by decide)]
      obtain ⟨h1, h2⟩ := ih (i + 1) (acc ++ [((⟨5, [40], 0⟩ : Tk), i)]) (by omega) (by omega)
      refine ⟨?_, h2⟩
      rw [h1]; simp; omega

theorem Toks_rounds (m : Nat) : if 2000 < m then Toks (List.replicate m 40) = ([], 0, 12) else (Toks (List.replicate m 40)).1.length = m + 1 ∧ (Toks (List.replicate m 40)).2.2 = 0 := by
  rw [Toks, List.length_replicate]
  split
  · rfl
  · have := toksP_rounds m (m + 1) 0 [] (by omega) (Nat.zero_le _)
    simpa using this

set_option maxHeartbeats 2000000 in
theorem longLaw (n : Int) (hn : -9223372036854775808 ≤ n ∧ n ≤ 9223372036854775807) : Does X 7 [.int .i64 n] s0 fun v _ => v = .bool true := by
  refine call_aw b7 rfl rfl rfl ?_; delta b7
  have body : ∀ (N : Nat) (e : AEnv), N ≤ 9223372036854775807 → True := fun _ _ _ => trivial
  obtain ⟨N, hN, hNn⟩ : ∃ N : Nat, (N : Int) ≤ 9223372036854775807 ∧ (if decide (n < 0) = true then IntKind.wrap .i64 (0 - IntKind.wrap .i64 (n + 1)) else n) = (N : Int) := by
    by_cases h0 : n < 0
    · rw [if_pos (by simpa using h0), wrap_i64 (n := n + 1) (by omega) (by omega), wrap_i64 (by omega) (by omega)]
      exact ⟨(0 - (n + 1)).toNat, by omega, by omega⟩
    · rw [if_neg (by simpa using h0)]
      exact ⟨n.toNat, by omega, by omega⟩
  have hmod : ((N : Int)).tmod 2101 = ((N % 2101 : Nat) : Int) := by
    rw [show (2101 : Int) = ((2101 : Nat) : Int) from rfl, ← Int.ofNat_tmod]
  generalize hm : N % 2101 = m at hmod
  have hm2 : m < 2101 := by omega
  simp -dsimp -implicitDefEqProofs only [go_sem, Nat.reduceAdd, Nat.reduceEqDiff, reduceIte, reduceCtorEq, Nat.reduceLeDiff, Nat.reduceLT, Nat.reduceSub, Int.reduceEq, Int.reduceLT]
  cases h0 : decide (n < 0)
  all_goals
    rw [h0] at hNn
    simp only [Bool.false_eq_true, if_false, if_true] at hNn
    simp -dsimp -implicitDefEqProofs only [go_sem, Nat.reduceAdd, Nat.reduceEqDiff, reduceIte, reduceCtorEq, Nat.reduceLeDiff, Nat.reduceLT, Nat.reduceSub, Int.reduceEq, Int.reduceLT, h0, CondV_true, CondV_false, hNn, hmod]
    let I : Nat → AEnv → ASt → Prop := fun q e st => ∃ (j : Nat) (i : Option Nat) (H : Hp) (C : Nat), q = m - j ∧ j ≤ m ∧ OwnH H 1 i ((List.replicate j (40 : UInt8)).map byteV) ∧ e.get 0 = .int .i64 (m : Int) ∧ e.get 3 = ownV i ((List.replicate j (40 : UInt8)).map byteV) ∧ e.get 4 = .int .i64 (j : Int) ∧ st = ⟨H, C, []⟩
    refine LoopK_rule I m ⟨0, none, _, _, rfl, Nat.zero_le _, rfl, rfl, rfl, rfl, rfl⟩ ?_
    rintro q e st ⟨j, i, H, C, rfl, hj, how, g0, g3, g4, rfl⟩
    simp -dsimp -implicitDefEqProofs only [go_sem, Nat.reduceAdd, Nat.reduceEqDiff, reduceIte, reduceCtorEq, Nat.reduceLeDiff, Nat.reduceLT, Nat.reduceSub, Int.reduceEq, Int.reduceLT, g0, g4]
    refine CondV_split (fun hc => ?_) fun hc => ?_
    · have hj' : j < m := by simpa using hc
      have happ : appK C 0 1 1 ⟨H, C + 1, []⟩ (ownV i ((List.replicate j (40 : UInt8)).map byteV)) (.slice .full [.int .u8 40]) = some (ownV (some (i.getD C)) ((List.replicate (j + 1) (40 : UInt8)).map byteV), ⟨upd H (i.getD C) (.arr (j + 1) 1), C + 1, []⟩) := by
        have := @appK_one C 0 1 1 H (C + 1) [] i ((List.replicate j (40 : UInt8)).map byteV) (byteV 40) .full how rfl (by simp; omega)
        simp only [List.length_map, Nat.add_zero, List.length_replicate] at this
        rw [List.replicate_succ', List.map_append]
        exact this
      simp -dsimp -implicitDefEqProofs only [go_sem, Nat.reduceAdd, Nat.reduceEqDiff, reduceIte, reduceCtorEq, Nat.reduceLeDiff, Nat.reduceLT, Nat.reduceSub, Int.reduceEq, Int.reduceLT, g3, g4, partsV, happ]
      refine Again.of (m - (j + 1)) (by omega) ⟨j + 1, some (i.getD C), _, _, rfl, hj', ?_, g0, rfl, ?_, rfl⟩
      · simp [OwnH, upd_same]
      · show AV.int .i64 (IntKind.wrap .i64 ((j : Int) + 1)) = _
        rw [wrap_i64 (by omega) (by omega)]; rfl
    · obtain rfl : j = m := by simp at hc; omega
      have hr := Toks_rounds j
      simp -dsimp -implicitDefEqProofs only [go_sem, Nat.reduceAdd, Nat.reduceEqDiff, reduceIte, reduceCtorEq, Nat.reduceLeDiff, Nat.reduceLT, Nat.reduceSub, Int.reduceEq, Int.reduceLT, g3, str_own i _ how]
      refine DoesK_of (tokens_call _ _ _ _) ?_
      generalize hT : Toks (List.replicate j 40) = T at hr
      obtain ⟨tl, ta, te⟩ := T
      rintro v s' ⟨o, rfl, h1, c1, rfl, f1⟩
      simp only at hr
      by_cases hj2 : 2000 < j
      · rw [if_pos hj2] at hr
        injection hr with e1 e2; injection e2 with e2 e3
        subst e1; subst e2; subst e3
        have hd : decide ((j : Int) > 2000) = true := by simp; omega
        simp -dsimp -implicitDefEqProofs only [go_sem, Nat.reduceAdd, Nat.reduceEqDiff, reduceIte, reduceCtorEq, Nat.reduceLeDiff, Nat.reduceLT, Nat.reduceSub, Int.reduceEq, Int.reduceLT, g0, hd, CondV_true, Int.cast_ofNat_Int]
        refine DoesK_of (lives_call _ _ _) ?_
        rintro v s' ⟨rfl, h', c', rfl, f⟩
        simp -dsimp -implicitDefEqProofs only [go_sem, Nat.reduceAdd, Nat.reduceEqDiff, reduceIte, reduceCtorEq, Nat.reduceLeDiff, Nat.reduceLT, Nat.reduceSub, Int.reduceEq, Int.reduceLT]
      · rw [if_neg hj2] at hr
        obtain ⟨e1, rfl⟩ := hr
        have hd : decide ((j : Int) > 2000) = false := by simp; omega
        have w1 : IntKind.wrap .i64 ((j : Int) + 1) = ((j + 1 : Nat) : Int) := by rw [wrap_i64 (by omega) (by omega)]; omega
        simp -dsimp -implicitDefEqProofs only [go_sem, Nat.reduceAdd, Nat.reduceEqDiff, reduceIte, reduceCtorEq, Nat.reduceLeDiff, Nat.reduceLT, Nat.reduceSub, Int.reduceEq, Int.reduceLT, g0, hd, CondV_true, CondV_false, List.length_map, e1, w1]
        refine DoesK_of (lives_call _ _ _) ?_
        rintro v s' ⟨rfl, h', c', rfl, f⟩
        simp -dsimp -implicitDefEqProofs only [go_sem, Nat.reduceAdd, Nat.reduceEqDiff, reduceIte, reduceCtorEq, Nat.reduceLeDiff, Nat.reduceLT, Nat.reduceSub, Int.reduceEq, Int.reduceLT]

end Go.Proofs.YtggdpckdlcngpaaDoor

set_option linter.unusedVariables false
set_option linter.unusedSimpArgs false
namespace Go.Proofs.YtggdpckdlcngpaaDoor
open Abs Go.RowKit

def allB : List UInt8 := [97, 98, 99, 100, 101, 102, 103, 104, 105, 106, 107, 108, 109, 110, 111, 112, 113, 114, 115, 116, 117, 118, 119, 120, 121, 122, 65, 66, 67, 68, 69, 70, 71, 72, 73, 74, 75, 76, 77, 78, 79, 80, 81, 82, 83, 84, 85, 86, 87, 88, 89, 90, 48, 49, 50, 51, 52, 53, 54, 55, 56, 57, 95]

def wordK (j : Nat) (b : UInt8) : Nat := if j = 0 then b.toNat % 52 else b.toNat % 63
def wordB (j : Nat) (b : UInt8) : UInt8 := allB.getD (wordK j b) 0
def wordF : Nat → List UInt8 → List UInt8
  | _, [] => []
  | j, b :: l => wordB j b :: wordF (j + 1) l

theorem wordF_snoc : ∀ (l : List UInt8) (i : Nat) (b : UInt8), wordF i (l ++ [b]) = wordF i l ++ [wordB (i + l.length) b]
  | [], i, b => rfl
  | c :: l, i, b => by
    rw [List.cons_append, wordF, wordF_snoc l, wordF, List.cons_append, List.length_cons, show i + 1 + l.length = i + (l.length + 1) by omega]
theorem wordF_len : ∀ (l : List UInt8) (i : Nat), (wordF i l).length = l.length
  | [], i => rfl
  | c :: l, i => by rw [wordF, List.length_cons, wordF_len l, List.length_cons]

theorem all_inner : ((List.range 63).all fun n => innerB (allB.getD n 0)) = true := by kernel_rfl
theorem all_letter : ((List.range 52).all fun n => (smallB (allB.getD n 0) || largeB (allB.getD n 0)) && !digitB (allB.getD n 0) && !(allB.getD n 0 == 34) && !(allB.getD n 0 == 32) && !(allB.getD n 0 == 9) && !(allB.getD n 0 == 10) && !(allB.getD n 0 == 35) && (largeB (allB.getD n 0) == decide ((allB.getD n 0).toNat < 97))) = true := by kernel_rfl

theorem wordK_lt (j : Nat) (b : UInt8) : wordK j b < 63 := by unfold wordK; split <;> omega
theorem wordB_inner (j : Nat) (b : UInt8) : innerB (wordB j b) = true := List.all_eq_true.1 all_inner _ (List.mem_range.2 (wordK_lt j b))
theorem wordF_inner : ∀ (l : List UInt8) (i : Nat), ∀ b ∈ wordF i l, innerB b = true
  | [], i, b, h => by simp [wordF] at h
  | c :: l, i, b, h => by
    rw [wordF] at h
    rcases List.mem_cons.1 h with rfl | h
    · exact wordB_inner _ _
    · exact wordF_inner l _ b h

theorem takeWhile_all {p : UInt8 → Bool} : ∀ {l : List UInt8}, (∀ b ∈ l, p b = true) → l.takeWhile p = l
  | [], _ => rfl
  | b :: l, h => by rw [List.takeWhile_cons, if_pos (h b List.mem_cons_self), takeWhile_all fun c hc => h c (List.mem_cons_of_mem _ hc)]

/-- What a name is as tokens. -/
theorem Toks_word (b : UInt8) (l : List UInt8) (hl : l.length < 20) : ∃ (x : UInt8) (r : List UInt8), wordF 0 (b :: l) = x :: r ∧ r.length = l.length ∧ largeB x = decide (x.toNat < 97) ∧
    Toks (x :: r) = if 16 < r.length + 1 then ([], 0, 12) else ([(⟨nameKind (x :: r), x :: r, 0⟩, 0), (⟨0, [], 0⟩, r.length + 1)], 0, 0) := by
  have hx := List.all_eq_true.1 all_letter (b.toNat % 52) (List.mem_range.2 (Nat.mod_lt _ (by decide)))
  have hxe : allB.getD (b.toNat % 52) 0 = wordB 0 b := rfl
  rw [hxe] at hx
  have hin : ∀ c ∈ wordF 0 (b :: l), innerB c = true := wordF_inner _ _
  have hlen := wordF_len (b :: l) 0
  rw [wordF] at hin hlen
  refine ⟨wordB 0 b, wordF 1 l, rfl, by simpa using hlen, ?_⟩
  have hr : (wordF 1 l).length = l.length := by simpa using hlen
  generalize wordB 0 b = x at *
  generalize wordF 1 l = r at *
  simp only [Bool.and_eq_true, Bool.not_eq_true', beq_eq_false_iff_ne, beq_iff_eq] at hx
  obtain ⟨⟨⟨⟨⟨⟨⟨h1, h2⟩, h3⟩, h4⟩, h5⟩, h6⟩, h7⟩, h8⟩ := hx
  refine ⟨h8, ?_⟩
  have hsk : skipM false (x :: r) = 0 := skip_none (by simp [h4, h5, h6]) h7 r
  have htw : (x :: r).takeWhile innerB = x :: r := takeWhile_all hin
  have htok : tokP (x :: r) = if 16 < r.length + 1 then (12, ⟨0, [], 0⟩, 0) else (0, ⟨nameKind (x :: r), x :: r, 0⟩, r.length + 1) := by
    rw [tokP, if_neg (by simp [h2]), if_neg h3, if_pos h1, htw]; rfl
  have hk : nameKind (x :: r) ≠ 0 := by simp only [nameKind]; split <;> (try split) <;> decide
  rw [Toks, if_neg (by simp; omega), List.length_cons, toksP, List.drop_zero, hsk, Nat.add_zero, List.drop_zero, htok]
  by_cases h16 : 16 < r.length + 1
  · rw [if_pos h16]; simp [h16]
  · rw [if_neg h16]
    simp only [ne_eq, not_true_eq_false, if_false, hk, h16, Nat.zero_add, List.nil_append]
    rw [toksP]
    have hd : (x :: r).drop (r.length + 1) = [] := by rw [List.drop_eq_nil_iff]; simp
    simp [hd, skipM, tokP]

set_option maxHeartbeats 4000000 in
theorem namesLaw (s : List UInt8) : Does X 8 [.str s] s0 fun v _ => v = .bool true := by
  refine call_aw b8 rfl rfl rfl ?_; delta b8
  obtain ⟨S, hS, hS20⟩ : ∃ S, S = (if decide ((s.length : Int) > 20) = true then s.take 20 else s) ∧ S.length ≤ 20 := by
    refine ⟨_, rfl, ?_⟩
    split
    · simp; omega
    · rename_i h; simp at h; omega
  simp -dsimp -implicitDefEqProofs only [go_sem, Nat.reduceAdd, Nat.reduceEqDiff, reduceIte, reduceCtorEq, Nat.reduceLeDiff, Nat.reduceLT, Nat.reduceSub, Int.reduceEq, Int.reduceLT]
  cases h20 : decide ((s.length : Int) > 20)
  all_goals
    rw [h20] at hS
    simp only [Bool.false_eq_true, if_false, if_true] at hS
  rotate_left
  have hcut : cutStr none (some (.int .i64 20)) (.str s) = some (.str S) := by
    have := cut_hi .i64 20 s
    rw [if_pos (by simp at h20; omega)] at this
    rw [hS]; exact this
  simp -dsimp -implicitDefEqProofs only [go_sem, Nat.reduceAdd, Nat.reduceEqDiff, reduceIte, reduceCtorEq, Nat.reduceLeDiff, Nat.reduceLT, Nat.reduceSub, Int.reduceEq, Int.reduceLT, CondV_true, hcut]
  rotate_left
  simp -dsimp -implicitDefEqProofs only [go_sem, Nat.reduceAdd, Nat.reduceEqDiff, reduceIte, reduceCtorEq, Nat.reduceLeDiff, Nat.reduceLT, Nat.reduceSub, Int.reduceEq, Int.reduceLT, CondV_false]
  rw [← hS]
  all_goals
    let I : Nat → AEnv → ASt → Prop := fun q e st => ∃ (j : Nat) (i : Option Nat) (H : Hp) (C : Nat), q = S.length - j ∧ j ≤ S.length ∧ OwnH H 1 i ((wordF 0 (S.take j)).map byteV) ∧ e.get 0 = .str S ∧ e.get 3 = .str allB ∧ e.get 4 = ownV i ((wordF 0 (S.take j)).map byteV) ∧ e.get 5 = .int .i64 (j : Int) ∧ st = ⟨H, C, []⟩
    refine LoopK_rule I S.length ⟨0, none, _, _, rfl, Nat.zero_le _, rfl, rfl, rfl, rfl, rfl, rfl⟩ ?_
    rintro q e st ⟨j, i, H, C, rfl, hj, how, g0, g3, g4, g5, rfl⟩
    simp -dsimp -implicitDefEqProofs only [go_sem, Nat.reduceAdd, Nat.reduceEqDiff, reduceIte, reduceCtorEq, Nat.reduceLeDiff, Nat.reduceLT, Nat.reduceSub, Int.reduceEq, Int.reduceLT, g0, g5]
    refine CondV_split (fun hc => ?_) fun hc => ?_
    · have hj' : j < S.length := by simpa using hc
      have hg := List.getElem?_eq_getElem hj'
      have htk : S.take (j + 1) = S.take j ++ [S[j]] := by rw [List.take_succ_eq_append_getElem hj']
      generalize S[j] = y at hg htk
      have hw : wordF 0 (S.take (j + 1)) = wordF 0 (S.take j) ++ [wordB j y] := by
        rw [htk, wordF_snoc, List.length_take, Nat.min_eq_left hj, Nat.zero_add]
      have hwl : (wordF 0 (S.take j)).length = j := by rw [wordF_len, List.length_take, Nat.min_eq_left hj]
      have hy := UInt8.toNat_lt y
      have w1 : IntKind.wrap .i64 (y.toNat : Int) = (y.toNat : Int) := wrap_i64 (by omega) (by omega)
      have m1 : ((y.toNat : Int)).tmod 63 = ((y.toNat % 63 : Nat) : Int) := by rw [show (63 : Int) = ((63 : Nat) : Int) from rfl, ← Int.ofNat_tmod]
      have m2 : ((y.toNat : Int)).tmod 52 = ((y.toNat % 52 : Nat) : Int) := by rw [show (52 : Int) = ((52 : Nat) : Int) from rfl, ← Int.ofNat_tmod]
      have hat : allB[wordK j y]? = some (wordB j y) := by
        have h63 : wordK j y < allB.length := wordK_lt j y
        rw [wordB, List.getD_eq_getElem?_getD, List.getElem?_eq_getElem h63]; rfl
      have happ : appK C 0 1 1 ⟨H, C + 1, []⟩ (ownV i ((wordF 0 (S.take j)).map byteV)) (.slice .full [.int .u8 (wordB j y).toNat]) = some (ownV (some (i.getD C)) ((wordF 0 (S.take (j + 1))).map byteV), ⟨upd H (i.getD C) (.arr (j + 1) 1), C + 1, []⟩) := by
        have := @appK_one C 0 1 1 H (C + 1) [] i ((wordF 0 (S.take j)).map byteV) (byteV (wordB j y)) .full how rfl (by simp; omega)
        simp only [List.length_map, Nat.add_zero, hwl] at this
        rw [hw, List.map_append]
        exact this
      have again : ∀ e' : AEnv, e'.get 0 = .str S → e'.get 3 = .str allB → e'.get 4 = ownV (some (i.getD C)) ((wordF 0 (S.take (j + 1))).map byteV) → e'.get 5 = .int .i64 (IntKind.wrap .i64 ((j : Int) + 1)) → Again I .mk (S.length - j) e' ⟨upd H (i.getD C) (.arr (j + 1) 1), C + 1, []⟩ := by
        intro e' a0 a3 a4 a5
        refine Again.of (S.length - (j + 1)) (by omega) ⟨j + 1, some (i.getD C), _, _, rfl, hj', ?_, a0, a3, a4, ?_, rfl⟩
        · have hwl1 : (wordF 0 (S.take (j + 1))).length = j + 1 := by rw [wordF_len, List.length_take, Nat.min_eq_left hj']
          simp only [OwnH, upd_same, List.length_map, hwl1]
        · rw [a5, wrap_i64 (by omega) (by omega)]; rfl
      by_cases hj0 : j = 0
      · have hd : decide ((j : Int) = 0) = true := by simp; omega
        have hk : wordK j y = y.toNat % 52 := by rw [wordK, if_pos hj0]
        rw [hk] at hat
        simp -dsimp -implicitDefEqProofs only [go_sem, Nat.reduceAdd, Nat.reduceEqDiff, reduceIte, reduceCtorEq, Nat.reduceLeDiff, Nat.reduceLT, Nat.reduceSub, Int.reduceEq, Int.reduceLT, g0, g3, g4, g5, strAt_nat, hg, w1, m1, m2, hd, CondV_true, hat, partsV, happ]
        exact again _ g0 g3 rfl rfl
      · have hd : decide ((j : Int) = 0) = false := by simp; omega
        have hk : wordK j y = y.toNat % 63 := by rw [wordK, if_neg hj0]
        rw [hk] at hat
        simp -dsimp -implicitDefEqProofs only [go_sem, Nat.reduceAdd, Nat.reduceEqDiff, reduceIte, reduceCtorEq, Nat.reduceLeDiff, Nat.reduceLT, Nat.reduceSub, Int.reduceEq, Int.reduceLT, g0, g3, g4, g5, strAt_nat, hg, w1, m1, m2, hd, CondV_false, hat, partsV, happ]
        exact again _ g0 g3 rfl rfl
    · obtain rfl : j = S.length := by simp at hc; omega
      rw [List.take_length] at how g4
      simp -dsimp -implicitDefEqProofs only [go_sem, Nat.reduceAdd, Nat.reduceEqDiff, reduceIte, reduceCtorEq, Nat.reduceLeDiff, Nat.reduceLT, Nat.reduceSub, Int.reduceEq, Int.reduceLT, g4, str_own i _ how]
      clear_value I
      cases hSc : S with
      | nil =>
        have hT : Toks (wordF 0 []) = ([(⟨0, [], 0⟩, 0)], 0, 0) := rfl
        refine DoesK_of (tokens_is hT _ _ _) ?_
        rintro v s' ⟨o, rfl, h1, c1, rfl, f1⟩
        have z16 : decide ((0 : Int) > 16) = false := rfl
        simp -dsimp -implicitDefEqProofs only [go_sem, Nat.reduceAdd, Nat.reduceEqDiff, reduceIte, reduceCtorEq, Nat.reduceLeDiff, Nat.reduceLT, Nat.reduceSub, Int.reduceEq, Int.reduceLT, show (wordF 0 []).length = 0 from rfl, Int.cast_ofNat_Int, CondV_true, CondV_false, z16]
        refine DoesK_of (lives_call _ _ _) ?_
        rintro v s' ⟨rfl, h', c', rfl, f⟩
        simp -dsimp -implicitDefEqProofs only [go_sem, Nat.reduceAdd, Nat.reduceEqDiff, reduceIte, reduceCtorEq, Nat.reduceLeDiff, Nat.reduceLT, Nat.reduceSub, Int.reduceEq, Int.reduceLT]
      | cons b l =>
        have hl20 : l.length < 20 := by rw [hSc] at hS20; simp at hS20; omega
        obtain ⟨x, r, hxr, hrl, hlg, hT⟩ := Toks_word b l hl20
        rw [hxr]
        have hs0 : strAt (.int .i64 0) (.str (x :: r)) = some (.int .u8 x.toNat) := rfl
        by_cases h16 : 16 < r.length + 1
        · rw [if_pos h16] at hT
          have hd : decide (((r.length + 1 : Nat) : Int) > 16) = true := by simp; omega
          refine DoesK_of (tokens_is hT _ _ _) ?_
          rintro v s' ⟨o, rfl, h1, c1, rfl, f1⟩
          simp -dsimp -implicitDefEqProofs only [go_sem, Nat.reduceAdd, Nat.reduceEqDiff, reduceIte, reduceCtorEq, Nat.reduceLeDiff, Nat.reduceLT, Nat.reduceSub, Int.reduceEq, Int.reduceLT, hd, Int.cast_ofNat_Int, CondV_true]
          refine DoesK_of (lives_call _ _ _) ?_
          rintro v s' ⟨rfl, h', c', rfl, f⟩
          simp -dsimp -implicitDefEqProofs only [go_sem, Nat.reduceAdd, Nat.reduceEqDiff, reduceIte, reduceCtorEq, Nat.reduceLeDiff, Nat.reduceLT, Nat.reduceSub, Int.reduceEq, Int.reduceLT]
        · rw [if_neg h16] at hT
          have hd : decide (((r.length + 1 : Nat) : Int) > 16) = false := by simp; omega
          have hd0 : decide (((r.length + 1 : Nat) : Int) = 0) = false := by simp; omega
          have hlt : decide ((x.toNat : Int) < 97) = largeB x := by rw [hlg, decide_eq_decide]; omega
          refine DoesK_of (tokens_is hT _ _ _) ?_
          rintro v s' ⟨o, rfl, h1, c1, rfl, f1⟩
          simp -dsimp -implicitDefEqProofs only [go_sem, Nat.reduceAdd, Nat.reduceEqDiff, reduceIte, reduceCtorEq, Nat.reduceLeDiff, Nat.reduceLT, Nat.reduceSub, Int.reduceEq, Int.reduceLT, hd, hd0, Int.cast_ofNat_Int, CondV_false, tkV, tokC, elemA, idx_slice_0, idx_slice_1, hs0, hlt]
          have hnk : nameKind (x :: r) = if largeB x = true then 4 else if keyP (x :: r) = true then 6 else 3 := rfl
          refine CondV_split (fun hq => ?_) fun hq => ?_
          · rw [if_pos hq] at hnk
            simp -dsimp -implicitDefEqProofs only [go_sem, Nat.reduceAdd, Nat.reduceEqDiff, reduceIte, reduceCtorEq, Nat.reduceLeDiff, Nat.reduceLT, Nat.reduceSub, Int.reduceEq, Int.reduceLT, hnk, CondV_true, elemA, idx_slice_0]
            refine DoesK_of (lives_call _ _ _) ?_
            rintro v s' ⟨rfl, h', c', rfl, f⟩
            simp -dsimp -implicitDefEqProofs only [go_sem, Nat.reduceAdd, Nat.reduceEqDiff, reduceIte, reduceCtorEq, Nat.reduceLeDiff, Nat.reduceLT, Nat.reduceSub, Int.reduceEq, Int.reduceLT]
          · rw [if_neg (by simp [hq])] at hnk
            simp -dsimp -implicitDefEqProofs only [go_sem, Nat.reduceAdd, Nat.reduceEqDiff, reduceIte, reduceCtorEq, Nat.reduceLeDiff, Nat.reduceLT, Nat.reduceSub, Int.reduceEq, Int.reduceLT]
            refine DoesK_of (key_call _ (by simp; omega) _) ?_
            rintro v s' ⟨rfl, rfl⟩
            simp -dsimp -implicitDefEqProofs only [go_sem, Nat.reduceAdd, Nat.reduceEqDiff, reduceIte, reduceCtorEq, Nat.reduceLeDiff, Nat.reduceLT, Nat.reduceSub, Int.reduceEq, Int.reduceLT]
            refine CondV_split (fun hk => ?_) fun hk => ?_
            · rw [if_pos hk] at hnk
              simp -dsimp -implicitDefEqProofs only [go_sem, Nat.reduceAdd, Nat.reduceEqDiff, reduceIte, reduceCtorEq, Nat.reduceLeDiff, Nat.reduceLT, Nat.reduceSub, Int.reduceEq, Int.reduceLT, hnk, CondV_true, elemA, idx_slice_0]
              refine DoesK_of (lives_call _ _ _) ?_
              rintro v s' ⟨rfl, h', c', rfl, f⟩
              simp -dsimp -implicitDefEqProofs only [go_sem, Nat.reduceAdd, Nat.reduceEqDiff, reduceIte, reduceCtorEq, Nat.reduceLeDiff, Nat.reduceLT, Nat.reduceSub, Int.reduceEq, Int.reduceLT]
            · rw [if_neg (by simp [hk])] at hnk
              simp -dsimp -implicitDefEqProofs only [go_sem, Nat.reduceAdd, Nat.reduceEqDiff, reduceIte, reduceCtorEq, Nat.reduceLeDiff, Nat.reduceLT, Nat.reduceSub, Int.reduceEq, Int.reduceLT, hnk, CondV_true, elemA, idx_slice_0]
              refine DoesK_of (lives_call _ _ _) ?_
              rintro v s' ⟨rfl, h', c', rfl, f⟩
              simp -dsimp -implicitDefEqProofs only [go_sem, Nat.reduceAdd, Nat.reduceEqDiff, reduceIte, reduceCtorEq, Nat.reduceLeDiff, Nat.reduceLT, Nat.reduceSub, Int.reduceEq, Int.reduceLT]

end Go.Proofs.YtggdpckdlcngpaaDoor

set_option linter.unusedVariables false
set_option linter.unusedSimpArgs false
namespace Go.Proofs.YtggdpckdlcngpaaDoor
open Abs Go.RowKit

theorem decV_nil (v : Nat) : decV v [] = v := rfl
theorem decV_cons (v : Nat) (b : UInt8) (l : List UInt8) : decV v (b :: l) = decV (10 * v + (b.toNat - 48)) l := by kernel_rfl
theorem decV_lin : ∀ (l : List UInt8) (v : Nat), decV v l = v * 10 ^ l.length + decV 0 l
  | [], v => by simp [decV_nil]
  | b :: l, v => by
    rw [decV_cons, decV_lin l, decV_cons 0, decV_lin l (10 * 0 + (b.toNat - 48)), List.length_cons, Nat.pow_succ, Nat.add_mul, Nat.add_mul, Nat.mul_zero, Nat.zero_mul, Nat.zero_add, ← Nat.add_assoc]
    congr 2
    rw [Nat.mul_comm 10 v, Nat.mul_assoc, Nat.mul_comm 10]
theorem decV_app : ∀ (l m : List UInt8) (v : Nat), decV v (l ++ m) = decV (decV v l) m
  | [], m, v => rfl
  | b :: l, m, v => by rw [List.cons_append, decV_cons, decV_app l m, decV_cons]
theorem decV_noughts : ∀ z : Nat, decV 0 (List.replicate z (48 : UInt8)) = 0
  | 0 => rfl
  | z + 1 => by rw [List.replicate_succ, decV_cons]; exact decV_noughts z

theorem wrap1_call (n : Int) (hn : 0 ≤ n ∧ n ≤ 4611686018427387903) (st : ASt) : Does X 21 [.int .i64 n] st fun v s' => v = .int .i64 n ∧ s' = st := by
  obtain ⟨h, c, d⟩ := st
  refine call_aw b21 rfl rfl rfl ?_; delta b21
  have h1 : decide (n > 4611686018427387903) = false := by simp; omega
  have h2 : decide (n < -4611686018427387904) = false := by simp; omega
  simp -dsimp -implicitDefEqProofs only [go_sem, Nat.reduceAdd, Nat.reduceEqDiff, reduceIte, reduceCtorEq, Nat.reduceLeDiff, Nat.reduceLT, Nat.reduceSub, Int.reduceEq, Int.reduceLT, h1, h2, CondV_false]

set_option maxHeartbeats 1000000 in
theorem show_call (n : Nat) (hn : n ≤ 4611686018427387903) (st : ASt) : Does X 17 [.int .i64 (n : Int)] st fun v s' => (∃ D, v = .str D ∧ AllDigits D ∧ D ≠ [] ∧ D.length ≤ 19 ∧ decV 0 D = n) ∧ s' = st := by
  obtain ⟨h, c, d⟩ := st
  refine call_aw b17 rfl rfl rfl ?_; delta b17
  simp -dsimp -implicitDefEqProofs only [go_sem, Nat.reduceAdd, Nat.reduceEqDiff, reduceIte, reduceCtorEq, Nat.reduceLeDiff, Nat.reduceLT, Nat.reduceSub, Int.reduceEq, Int.reduceLT]
  refine DoesK_of (wrap1_call _ (by omega) _) ?_
  rintro v s' ⟨rfl, rfl⟩
  simp -dsimp -implicitDefEqProofs only [go_sem, Nat.reduceAdd, Nat.reduceEqDiff, reduceIte, reduceCtorEq, Nat.reduceLeDiff, Nat.reduceLT, Nat.reduceSub, Int.reduceEq, Int.reduceLT]
  refine CondV_split (fun h0 => ?_) fun h0 => ?_
  · have hn0 : n = 0 := by simp at h0; omega
    simp -dsimp -implicitDefEqProofs only [go_sem, Nat.reduceAdd, Nat.reduceEqDiff, reduceIte, reduceCtorEq, Nat.reduceLeDiff, Nat.reduceLT, Nat.reduceSub, Int.reduceEq, Int.reduceLT]
    exact ⟨[48], rfl, by simp [AllDigits], by simp, by simp, by rw [hn0]; rfl⟩
  · have hn0 : n ≠ 0 := by simp at h0; omega
    have hneg : decide ((n : Int) < 0) = false := by simp
    simp -dsimp -implicitDefEqProofs only [go_sem, Nat.reduceAdd, Nat.reduceEqDiff, reduceIte, reduceCtorEq, Nat.reduceLeDiff, Nat.reduceLT, Nat.reduceSub, Int.reduceEq, Int.reduceLT, hneg]
    let I : Nat → AEnv → ASt → Prop := fun q e st => ∃ (m : Nat) (s : List UInt8), q = m ∧ m * 10 ^ s.length + decV 0 s = n ∧ AllDigits s ∧ s.length ≤ 19 ∧ (m = 0 → s ≠ []) ∧ e.get 0 = .int .i64 (m : Int) ∧ e.get 3 = .str s ∧ e.get 4 = .bool false ∧ st = ⟨h, c, []⟩
    refine LoopK_rule I n ⟨n, [], rfl, by simp [decV_nil], by simp [AllDigits], by simp, fun e0 => absurd e0 hn0, rfl, rfl, rfl, rfl⟩ ?_
    rintro q e st ⟨m, s, rfl, hv, hd, hl, hne, g0, g3, g4, rfl⟩
    simp -dsimp -implicitDefEqProofs only [go_sem, Nat.reduceAdd, Nat.reduceEqDiff, reduceIte, reduceCtorEq, Nat.reduceLeDiff, Nat.reduceLT, Nat.reduceSub, Int.reduceEq, Int.reduceLT, g0]
    refine CondV_split (fun hc => ?_) fun hc => ?_
    · have hm : q ≠ 0 := by intro e0; subst e0; simp at hc
      have hqn : q ≤ n := by
        have : q * 1 ≤ q * 10 ^ s.length := Nat.mul_le_mul_left q (Nat.pow_pos (by decide))
        omega
      have hl18 : s.length ≤ 18 := by
        rcases Nat.lt_or_ge s.length 19 with h' | h'
        · omega
        · exfalso
          have h1 : 10 ^ 19 ≤ 10 ^ s.length := Nat.pow_le_pow_right (by decide) h'
          have h2 : 1 * 10 ^ s.length ≤ q * 10 ^ s.length := Nat.mul_le_mul_right _ (by omega)
          have h3 : (10 : Nat) ^ 19 = 10000000000000000000 := by decide
          omega
      have t1 : ((q : Int)).tmod 10 = ((q % 10 : Nat) : Int) := by rw [show (10 : Int) = ((10 : Nat) : Int) from rfl, ← Int.ofNat_tmod]
      have t2 : ((q : Int)).tdiv 10 = ((q / 10 : Nat) : Int) := by rw [show (10 : Int) = ((10 : Nat) : Int) from rfl, ← Int.ofNat_tdiv]
      have d1 : decide (((q % 10 : Nat) : Int) < 0) = false := by simp only [decide_eq_false_iff_not]; omega
      have w1 : IntKind.wrap .i64 (48 + ((q % 10 : Nat) : Int)) = 48 + ((q % 10 : Nat) : Int) := wrap_i64 (by omega) (by omega)
      have w2 : IntKind.wrap .u8 (48 + ((q % 10 : Nat) : Int)) = ((UInt8.ofNat (48 + q % 10)).toNat : Int) := by
        rw [wrap_u8 (by omega) (by omega)]
        have : 48 + q % 10 < 256 := by omega
        simp [Nat.mod_eq_of_lt this]
      have w3 : IntKind.wrap .i64 ((q / 10 : Nat) : Int) = ((q / 10 : Nat) : Int) := wrap_i64 (by omega) (by omega)
      have hb : (UInt8.ofNat (48 + q % 10)).toNat = 48 + q % 10 := by
        have : 48 + q % 10 < 256 := by omega
        simp [Nat.mod_eq_of_lt this]
      generalize UInt8.ofNat (48 + q % 10) = b at w2 hb
      have hstr : strOfV h (.slice .full [.int .u8 (b.toNat : Int)]) = some (.str [b]) := by
        show (bytesV ([b].map byteV)).map AV.str = _
        rw [bytesV_map]; rfl
      have hcat : 1 + s.length ≤ 9223372036854775807 := by omega
      simp -dsimp -implicitDefEqProofs only [go_sem, Nat.reduceAdd, Nat.reduceEqDiff, reduceIte, reduceCtorEq, Nat.reduceLeDiff, Nat.reduceLT, Nat.reduceSub, Int.reduceEq, Int.reduceLT, g0, g3, t1, t2, d1, w1, w2, w3, CondV_false, partsV, hstr, hcat]
      refine Again.of (q / 10) (by omega) ⟨q / 10, b :: s, rfl, ?_, ?_, by simp; omega, by simp, rfl, rfl, g4, rfl⟩
      · rw [decV_cons, decV_lin s, hb, List.length_cons, Nat.pow_succ]
        have e1 : q = 10 * (q / 10) + q % 10 := by omega
        have e2 : 10 * 0 + (48 + q % 10 - 48) = q % 10 := by omega
        rw [e2, ← hv]
        conv => rhs; rw [e1]
        rw [Nat.add_mul, ← Nat.add_assoc, Nat.mul_comm (10 ^ s.length) 10, ← Nat.mul_assoc, Nat.mul_comm (q / 10) 10]
      · intro x hx
        rcases List.mem_cons.1 hx with rfl | hx
        · omega
        · exact hd x hx
    · have hm : q = 0 := by simp at hc; omega
      subst hm
      simp -dsimp -implicitDefEqProofs only [go_sem, Nat.reduceAdd, Nat.reduceEqDiff, reduceIte, reduceCtorEq, Nat.reduceLeDiff, Nat.reduceLT, Nat.reduceSub, Int.reduceEq, Int.reduceLT, g3, g4, CondV_false]
      exact ⟨s, rfl, hd, hne rfl, hl, by rw [← hv]; simp⟩

/-- Digits as tokens. -/
theorem Toks_digits (S : List UInt8) (hd : AllDigits S) (hne : S ≠ []) (hl : S.length ≤ 2000) : Toks S = if decV 0 S ≤ 4611686018427387903 then ([(⟨1, [], (decV 0 S : Nat)⟩, 0), (⟨0, [], 0⟩, S.length)], 0, 0) else ([], 0, 13) := by
  obtain ⟨x, r, rfl⟩ := List.exists_cons_of_ne_nil hne
  have hdb : ∀ b ∈ x :: r, digitB b = true := by
    intro b hb
    have := hd b hb
    simp [digitB, isDigit]; omega
  have hx := hd x List.mem_cons_self
  have hx1 : ¬ (x = 32 ∨ x = 9 ∨ x = 10) := by rintro (rfl | rfl | rfl) <;> simp at hx
  have hx2 : x ≠ 35 := by rintro rfl; simp at hx
  have hsk : skipM false (x :: r) = 0 := skip_none hx1 hx2 r
  have htw : (x :: r).takeWhile digitB = x :: r := takeWhile_all hdb
  have htok : tokP (x :: r) = if decV 0 (x :: r) ≤ 4611686018427387903 then (0, ⟨1, [], (decV 0 (x :: r) : Nat)⟩, (x :: r).length) else (13, ⟨0, [], 0⟩, 0) := by
    rw [tokP, if_pos (hdb x List.mem_cons_self), htw]
  rw [Toks, if_neg (by omega), List.length_cons, toksP, List.drop_zero, hsk, Nat.add_zero, List.drop_zero, htok]
  by_cases hv : decV 0 (x :: r) ≤ 4611686018427387903
  · simp only [if_pos hv]
    rw [if_neg (by simp), if_neg (by decide), toksP]
    have hdr : (x :: r).drop (r.length + 1) = [] := by rw [List.drop_eq_nil_iff]; simp
    simp [hdr, skipM, tokP]
  · simp [if_neg hv]

end Go.Proofs.YtggdpckdlcngpaaDoor

set_option linter.unusedVariables false
set_option linter.unusedSimpArgs false
namespace Go.Proofs.YtggdpckdlcngpaaDoor
open Abs Go.RowKit

theorem AllDigits.app {a b : List UInt8} (ha : AllDigits a) (hb : AllDigits b) : AllDigits (a ++ b) := fun x hx => (List.mem_append.1 hx).elim (ha x) (hb x)
theorem AllDigits.noughts (z : Nat) : AllDigits (List.replicate z 48) := fun x hx => by rw [List.eq_of_mem_replicate hx]; decide

def noughts19 : List UInt8 := [48, 48, 48, 48, 48, 48, 48, 48, 48, 48, 48, 48, 48, 48, 48, 48, 48, 48, 48]
theorem decV_19 (v : Nat) : decV v noughts19 = v * 10000000000000000000 := by
  have h19 : (10 : Nat) ^ 19 = 10000000000000000000 := by decide
  rw [decV_lin, show decV 0 noughts19 = 0 from decV_noughts 19, show noughts19.length = 19 from rfl, h19, Nat.add_zero]

/-- A number of a law's that is turned if it is below nought. -/
theorem turned (n : Int) (hn : -9223372036854775808 ≤ n ∧ n ≤ 9223372036854775807) : ∃ N : Nat, (N : Int) ≤ 9223372036854775807 ∧ (if decide (n < 0) = true then IntKind.wrap .i64 (0 - IntKind.wrap .i64 (n + 1)) else n) = (N : Int) := by
  by_cases h0 : n < 0
  · rw [if_pos (by simpa using h0), wrap_i64 (n := n + 1) (by omega) (by omega), wrap_i64 (by omega) (by omega)]
    exact ⟨(0 - (n + 1)).toNat, by omega, by omega⟩
  · rw [if_neg (by simpa using h0)]
    exact ⟨n.toNat, by omega, by omega⟩

set_option maxHeartbeats 4000000 in
theorem digitsLaw (n m : Int) (hn : -9223372036854775808 ≤ n ∧ n ≤ 9223372036854775807) (hm : -9223372036854775808 ≤ m ∧ m ≤ 9223372036854775807) : Does X 9 [.int .i64 n, .int .i64 m] s0 fun v _ => v = .bool true := by
  refine call_aw b9 rfl rfl rfl ?_; delta b9
  obtain ⟨N, hN, hNn⟩ := turned n hn
  obtain ⟨M, hM, hMm⟩ := turned m hm
  have modA : ((N : Int)).tmod 4611686018427387904 = ((N % 4611686018427387904 : Nat) : Int) := by
    rw [show (4611686018427387904 : Int) = ((4611686018427387904 : Nat) : Int) from rfl, ← Int.ofNat_tmod]
  have hA : N % 4611686018427387904 ≤ 4611686018427387903 := by omega
  generalize N % 4611686018427387904 = A at modA hA
  have modZ : ((M : Int)).tmod 30 = ((M % 30 : Nat) : Int) := by rw [show (30 : Int) = ((30 : Nat) : Int) from rfl, ← Int.ofNat_tmod]
  have hZ : M % 30 < 30 := by omega
  generalize M % 30 = Z at modZ hZ
  have e62 : decide ((4611686018427387904 : Int) = 0) = false := rfl
  simp -dsimp -implicitDefEqProofs only [go_sem, Nat.reduceAdd, Nat.reduceEqDiff, reduceIte, reduceCtorEq, Nat.reduceLeDiff, Nat.reduceLT, Nat.reduceSub, Int.reduceEq, Int.reduceLT]
  cases h0 : decide (n < 0) <;> cases h1 : decide (m < 0)
  all_goals
    rw [h0] at hNn
    rw [h1] at hMm
    simp only [Bool.false_eq_true, if_false, if_true] at hNn hMm
    have HN := hNn
    have HM := hMm
    (try subst hNn)
    (try subst hMm)
    simp -dsimp -implicitDefEqProofs only [go_sem, Nat.reduceAdd, Nat.reduceEqDiff, reduceIte, reduceCtorEq, Nat.reduceLeDiff, Nat.reduceLT, Nat.reduceSub, Int.reduceEq, Int.reduceLT, h0, h1, CondV_true, CondV_false, HN, HM, modA]
    refine DoesK_of (show_call A hA _) ?_
    rintro v s' ⟨⟨D, rfl, hD, hDne, hDl, hDv⟩, rfl⟩
    simp -dsimp -implicitDefEqProofs only [go_sem, Nat.reduceAdd, Nat.reduceEqDiff, reduceIte, reduceCtorEq, Nat.reduceLeDiff, Nat.reduceLT, Nat.reduceSub, Int.reduceEq, Int.reduceLT]
    let I : Nat → AEnv → ASt → Prop := fun q e st => ∃ j : Nat, q = Z - j ∧ j ≤ Z ∧ e.get 0 = .int .i64 (N : Int) ∧ e.get 1 = .int .i64 (M : Int) ∧ e.get 5 = .str (List.replicate j 48 ++ D) ∧ e.get 6 = .int .i64 (j : Int) ∧ st = ⟨s0.heap, s0.ctr, []⟩
    refine LoopK_rule I Z ⟨0, rfl, Nat.zero_le _, rfl, rfl, rfl, rfl, rfl⟩ ?_
    rintro q e st ⟨j, rfl, hj, g0, g1, g5, g6, rfl⟩
    simp -dsimp -implicitDefEqProofs only [go_sem, Nat.reduceAdd, Nat.reduceEqDiff, reduceIte, reduceCtorEq, Nat.reduceLeDiff, Nat.reduceLT, Nat.reduceSub, Int.reduceEq, Int.reduceLT, g1, g6, modZ]
    refine CondV_split (fun hc => ?_) fun hc => ?_
    · have hj' : j < Z := by simpa using hc
      have hcat : 1 + (List.replicate j (48 : UInt8) ++ D).length ≤ 9223372036854775807 := by simp; omega
      simp -dsimp -implicitDefEqProofs only [go_sem, Nat.reduceAdd, Nat.reduceEqDiff, reduceIte, reduceCtorEq, Nat.reduceLeDiff, Nat.reduceLT, Nat.reduceSub, Int.reduceEq, Int.reduceLT, g5, g6, hcat]
      refine Again.of (Z - (j + 1)) (by omega) ⟨j + 1, rfl, hj', g0, g1, ?_, ?_, rfl⟩
      · rw [List.replicate_succ]; rfl
      · show AV.int .i64 (IntKind.wrap .i64 ((j : Int) + 1)) = _
        rw [wrap_i64 (by omega) (by omega)]; rfl
    · obtain rfl : j = Z := by simp at hc; omega
      have hS : AllDigits (List.replicate j 48 ++ D) := (AllDigits.noughts _).app hD
      have hSv : decV 0 (List.replicate j 48 ++ D) = A := by rw [decV_app, decV_noughts, hDv]
      have hSl : (List.replicate j (48 : UInt8) ++ D).length ≤ 60 := by simp; omega
      have hSne : List.replicate j (48 : UInt8) ++ D ≠ [] := by simp [hDne]
      generalize List.replicate j 48 ++ D = S at *
      have hT1 := Toks_digits S hS hSne (by omega)
      rw [hSv, if_pos hA] at hT1
      have hT2 := Toks_digits (S ++ noughts19) (hS.app (AllDigits.noughts 19)) (by simp [hSne]) (by simp [noughts19]; omega)
      rw [decV_app, decV_19, hSv] at hT2
      have hcat2 : S.length + noughts19.length ≤ 9223372036854775807 := by simp [noughts19]; omega
      simp -dsimp -implicitDefEqProofs only [go_sem, Nat.reduceAdd, Nat.reduceEqDiff, reduceIte, reduceCtorEq, Nat.reduceLeDiff, Nat.reduceLT, Nat.reduceSub, Int.reduceEq, Int.reduceLT, g5]
      refine DoesK_of (tokens_is hT1 _ _ _) ?_
      rintro v s' ⟨o, rfl, h1, c1, rfl, f1⟩
      rw [show (AV.str [48, 48, 48, 48, 48, 48, 48, 48, 48, 48, 48, 48, 48, 48, 48, 48, 48, 48, 48]) = .str noughts19 from rfl]
      simp -dsimp -implicitDefEqProofs only [go_sem, Nat.reduceAdd, Nat.reduceEqDiff, reduceIte, reduceCtorEq, Nat.reduceLeDiff, Nat.reduceLT, Nat.reduceSub, Int.reduceEq, Int.reduceLT, g5, hcat2]
      by_cases hA0 : A = 0
      · subst hA0
        rw [if_pos (by decide)] at hT2
        refine DoesK_of (tokens_is hT2 _ _ _) ?_
        rintro v s' ⟨o2, rfl, h2, c2, rfl, f2⟩
        simp -dsimp -implicitDefEqProofs only [go_sem, Nat.reduceAdd, Nat.reduceEqDiff, reduceIte, reduceCtorEq, Nat.reduceLeDiff, Nat.reduceLT, Nat.reduceSub, Int.reduceEq, Int.reduceLT, g0, modA, Int.cast_ofNat_Int, CondV_true, CondV_false, tkV, tokC, elemA, idx_slice_0, eqKey, eqT, Bool.bne_false, Bool.bne_true]
        refine DoesK_of (lives_call _ _ _) ?_
        rintro v s' ⟨rfl, h', c', rfl, f⟩
        simp -dsimp -implicitDefEqProofs only [go_sem, Nat.reduceAdd, Nat.reduceEqDiff, reduceIte, reduceCtorEq, Nat.reduceLeDiff, Nat.reduceLT, Nat.reduceSub, Int.reduceEq, Int.reduceLT]
      · have hd : decide (¬ (A : Int) = 0) = true := by simp; omega
        rw [if_neg (by omega)] at hT2
        refine DoesK_of (tokens_is hT2 _ _ _) ?_
        rintro v s' ⟨o2, rfl, h2, c2, rfl, f2⟩
        simp -dsimp -implicitDefEqProofs only [go_sem, Nat.reduceAdd, Nat.reduceEqDiff, reduceIte, reduceCtorEq, Nat.reduceLeDiff, Nat.reduceLT, Nat.reduceSub, Int.reduceEq, Int.reduceLT, g0, modA, hd, Int.cast_ofNat_Int, CondV_true, CondV_false, tkV, tokC, elemA, idx_slice_0, eqKey, eqT, Bool.bne_false, Bool.bne_true]
        refine DoesK_of (lives_call _ _ _) ?_
        rintro v s' ⟨rfl, h', c', rfl, f⟩
        simp -dsimp -implicitDefEqProofs only [go_sem, Nat.reduceAdd, Nat.reduceEqDiff, reduceIte, reduceCtorEq, Nat.reduceLeDiff, Nat.reduceLT, Nat.reduceSub, Int.reduceEq, Int.reduceLT]

end Go.Proofs.YtggdpckdlcngpaaDoor
