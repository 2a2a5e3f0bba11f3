/- The document's Unquote. -/
import Derived.Test.YtggdpckdlcngpaaDoorL18
set_option linter.unusedVariables false
set_option linter.unusedSimpArgs false
namespace Go.Proofs.YtggdpckdlcngpaaDoor
open Abs Go.RowKit

theorem byte_dec (c k : UInt8) (n : Int) (h : (k.toNat : Int) = n) : decide ((c.toNat : Int) = n) = decide (c = k) := by
  rw [← h, decide_eq_decide, byte_eq]
theorem byte_decn (c k : UInt8) (n : Int) (h : (k.toNat : Int) = n) : decide (¬ (c.toNat : Int) = n) = decide (c ≠ k) := by
  rw [← h, decide_eq_decide, byte_eq]

theorem hexd_call (x : UInt8) (st : ASt) : Does X 45 [.int .u8 x.toNat] st fun v s' => v = .int .i64 (hexI x) ∧ s' = st := by
  obtain ⟨h, c, d⟩ := st
  refine call_aw b45 rfl rfl rfl ?_; delta b45
  have hx := UInt8.toNat_lt x
  by_cases h1 : 48 ≤ x.toNat ∧ x.toNat ≤ 57
  · have q1 : decide ((x.toNat : Int) ≥ 48) = true := by simp; omega
    have q2 : decide ((x.toNat : Int) ≤ 57) = true := by simp; omega
    have w1 : IntKind.wrap .u8 ((x.toNat : Int) - 48) = (x.toNat : Int) - 48 := wrap_u8 (by omega) (by omega)
    have w2 : IntKind.wrap .i64 ((x.toNat : Int) - 48) = (x.toNat : Int) - 48 := wrap_i64 (by omega) (by omega)
    have hI : hexI x = (x.toNat : Int) - 48 := by rw [hexI, hexV, if_pos h1]; simp only; omega
    simp -dsimp -implicitDefEqProofs only [go_sem, Nat.reduceAdd, Nat.reduceEqDiff, reduceIte, reduceCtorEq, Nat.reduceLeDiff, Nat.reduceLT, Nat.reduceSub, Int.reduceEq, Int.reduceLT, q1, q2, CondV_true, w1, w2, hI]
  · have q0 : (decide ((x.toNat : Int) ≥ 48) && decide ((x.toNat : Int) ≤ 57)) = false := by simp; omega
    have hd : ∀ (k : Prop) [Decidable k], True := fun _ _ => trivial
    have step : ∀ b : Bool, b = decide ((x.toNat : Int) ≥ 48) → (b = true → decide ((x.toNat : Int) ≤ 57) = false) := by
      intro b hb ht; rw [ht] at hb; rw [← hb] at q0; simpa using q0
    by_cases h2 : 97 ≤ x.toNat ∧ x.toNat ≤ 102
    · have q1 : decide ((x.toNat : Int) ≥ 48) = true := by simp; omega
      have q2 : decide ((x.toNat : Int) ≤ 57) = false := by simp; omega
      have q3 : decide ((x.toNat : Int) ≥ 97) = true := by simp; omega
      have q4 : decide ((x.toNat : Int) ≤ 102) = true := by simp; omega
      have w1 : IntKind.wrap .u8 ((x.toNat : Int) - 97) = (x.toNat : Int) - 97 := wrap_u8 (by omega) (by omega)
      have w2 : IntKind.wrap .i64 ((x.toNat : Int) - 97) = (x.toNat : Int) - 97 := wrap_i64 (by omega) (by omega)
      have w3 : IntKind.wrap .i64 ((x.toNat : Int) - 97 + 10) = (x.toNat : Int) - 97 + 10 := wrap_i64 (by omega) (by omega)
      have hI : hexI x = (x.toNat : Int) - 97 + 10 := by rw [hexI, hexV, if_neg h1, if_pos h2]; simp only; omega
      simp -dsimp -implicitDefEqProofs only [go_sem, Nat.reduceAdd, Nat.reduceEqDiff, reduceIte, reduceCtorEq, Nat.reduceLeDiff, Nat.reduceLT, Nat.reduceSub, Int.reduceEq, Int.reduceLT, q1, q2, q3, q4, CondV_true, CondV_false, w1, w2, w3, hI]
    · have hI : hexI x = -1 := by rw [hexI, hexV, if_neg h1, if_neg h2]
      cases q1 : decide ((x.toNat : Int) ≥ 48) with
      | true =>
        have q2 : decide ((x.toNat : Int) ≤ 57) = false := step _ q1.symm rfl
        cases q3 : decide ((x.toNat : Int) ≥ 97) with
        | true =>
          have q4 : decide ((x.toNat : Int) ≤ 102) = false := by simp at q3 ⊢; omega
          simp -dsimp -implicitDefEqProofs only [go_sem, Nat.reduceAdd, Nat.reduceEqDiff, reduceIte, reduceCtorEq, Nat.reduceLeDiff, Nat.reduceLT, Nat.reduceSub, Int.reduceEq, Int.reduceLT, q1, q2, q3, q4, CondV_true, CondV_false, hI]
        | false => simp -dsimp -implicitDefEqProofs only [go_sem, Nat.reduceAdd, Nat.reduceEqDiff, reduceIte, reduceCtorEq, Nat.reduceLeDiff, Nat.reduceLT, Nat.reduceSub, Int.reduceEq, Int.reduceLT, q1, q2, q3, CondV_true, CondV_false, hI]
      | false =>
        have q3 : decide ((x.toNat : Int) ≥ 97) = false := by simp at q1 ⊢; omega
        simp -dsimp -implicitDefEqProofs only [go_sem, Nat.reduceAdd, Nat.reduceEqDiff, reduceIte, reduceCtorEq, Nat.reduceLeDiff, Nat.reduceLT, Nat.reduceSub, Int.reduceEq, Int.reduceLT, q1, q3, CondV_true, CondV_false, hI]

set_option maxHeartbeats 4000000 in
theorem runq_call (s : List UInt8) (hs : s.length < 4294967281) (h : Hp) (c : Nat) (d : List (Nat × List AV)) : Does X 33 [.str s] ⟨h, c, d⟩ fun v s' => v = unqA (unq s) ∧ ∃ h' c', s' = ⟨h', c', d⟩ ∧ Fr h c h' c' [] := by
  refine call_aw b33 rfl rfl rfl ?_; delta b33
  cases s with
  | nil =>
    simp -dsimp -implicitDefEqProofs only [go_sem, Nat.reduceAdd, Nat.reduceEqDiff, reduceIte, reduceCtorEq, Nat.reduceLeDiff, Nat.reduceLT, Nat.reduceSub, Int.reduceEq, Int.reduceLT, Int.cast_ofNat_Int, CondV_true]
    exact ⟨rfl, _, _, rfl, Fr.refl _ _ _⟩
  | cons x r =>
    have hs0 : strAt (.int .i64 0) (.str (x :: r)) = some (.int .u8 x.toNat) := rfl
    have hl0 : decide (((r.length + 1 : Nat) : Int) = 0) = false := by simp; omega
    simp -dsimp -implicitDefEqProofs only [go_sem, Nat.reduceAdd, Nat.reduceEqDiff, reduceIte, reduceCtorEq, Nat.reduceLeDiff, Nat.reduceLT, Nat.reduceSub, Int.reduceEq, Int.reduceLT, hs0, hl0]
    refine CondV_split (fun hq => ?_) fun hq => ?_
    · have hx : x ≠ 34 := by intro e; subst e; simp at hq
      simp -dsimp -implicitDefEqProofs only [go_sem, Nat.reduceAdd, Nat.reduceEqDiff, reduceIte, reduceCtorEq, Nat.reduceLeDiff, Nat.reduceLT, Nat.reduceSub, Int.reduceEq, Int.reduceLT]
      simp only [unq, if_pos hx]
      exact ⟨rfl, _, _, rfl, Fr.refl _ _ _⟩
    · have hx : x = 34 := byte_of (n := 34) (by simpa using hq) rfl
      simp -dsimp -implicitDefEqProofs only [go_sem, Nat.reduceAdd, Nat.reduceEqDiff, reduceIte, reduceCtorEq, Nat.reduceLeDiff, Nat.reduceLT, Nat.reduceSub, Int.reduceEq, Int.reduceLT]
      have hU : unq (x :: r) = unqK ((x :: r).drop 1) 0 [] 1 := by rw [unq, if_neg (by simp [hx])]; rfl
      rw [hU]
      generalize hS : x :: r = S at hs ⊢
      have hS1 : 1 ≤ S.length := by rw [← hS]; simp
      let I : Nat → AEnv → ASt → Prop := fun m e st => ∃ (j : Nat) (acc : List UInt8) (i : Option Nat) (H : Hp) (C : Nat), m = S.length - j ∧ 1 ≤ j ∧ j ≤ S.length ∧ acc.length ≤ j ∧ unqK (S.drop j) 0 acc j = unqK (S.drop 1) 0 [] 1 ∧ Fr h c H C [] ∧ OwnH H 1 i (acc.map byteV) ∧ (∀ k, i = some k → c ≤ k ∧ k < C) ∧
        e.get 0 = .str S ∧ e.get 5 = ownV i (acc.map byteV) ∧ e.get 6 = .int .i64 (j : Int) ∧ st = ⟨H, C, []⟩
      refine LoopK_rule I (S.length - 1) ⟨1, [], none, h, c, rfl, Nat.le_refl _, hS1, by simp, rfl, Fr.refl _ _ _, rfl, by simp, rfl, rfl, rfl, rfl⟩ ?_
      rintro m e st ⟨j, acc, i, H, C, rfl, hj1, hj, hacc, hst, hfr, how, hi, g0, g5, g6, rfl⟩
      by_cases hj' : j < S.length
      · have hlt : decide ((j : Int) < (S.length : Int)) = true := by simp; omega
        have hge : decide ((j : Int) ≥ (S.length : Int)) = false := by simp; omega
        have hg := List.getElem?_eq_getElem hj'
        have hdr : S.drop j = S[j] :: S.drop (j + 1) := List.drop_eq_getElem_cons hj'
        generalize S[j] = y at hg hdr
        rw [hdr] at hst
        have w1 : IntKind.wrap .i64 ((j : Int) + 1) = ((j + 1 : Nat) : Int) := by rw [wrap_i64 (by omega) (by omega)]; omega
        have happ : ∀ (z : UInt8), appK C 0 1 1 ⟨H, C + 1, []⟩ (ownV i (acc.map byteV)) (.slice .full [.int .u8 z.toNat]) = some (ownV (some (i.getD C)) ((acc ++ [z]).map byteV), ⟨upd H (i.getD C) (.arr (acc.length + 1) 1), C + 1, []⟩) := by
          intro z
          have := @appK_one C 0 1 1 H (C + 1) [] i (acc.map byteV) (byteV z) .full how rfl (by simp; omega)
          simp only [List.length_map, Nat.add_zero] at this
          rw [List.map_append]
          exact this
        have next : ∀ (z : UInt8) (n : Nat) (e' : AEnv), 1 ≤ n → j + n ≤ S.length → unqK (S.drop (j + n)) 0 (acc ++ [z]) (j + n) = unqK (S.drop 1) 0 [] 1 → e'.get 0 = .str S → e'.get 5 = ownV (some (i.getD C)) ((acc ++ [z]).map byteV) → e'.get 6 = .int .i64 ((j + n : Nat) : Int) →
            Again I .mk (S.length - j) e' ⟨upd H (i.getD C) (.arr (acc.length + 1) 1), C + 1, []⟩ := by
          intro z n e' hn hjn hu q0 q5 q6
          have hci : c ≤ i.getD C ∧ i.getD C < C + 1 := by
            cases hi' : i with
            | none => have := hfr.le; exact ⟨by simp; omega, by simp⟩
            | some k => have := hi k hi'; simp; omega
          refine Again.of (S.length - (j + n)) (by omega) ⟨j + n, acc ++ [z], some (i.getD C), _, _, rfl, by omega, hjn, by simp; omega, hu, hfr.upd _ (.inr hci.1) (Nat.le_succ _), ?_, ?_, q0, q5, q6, rfl⟩
          · simp [OwnH, upd_same]
          · rintro k hk; injection hk with hk; subst hk; exact hci
        simp -dsimp -implicitDefEqProofs only [go_sem, Nat.reduceAdd, Nat.reduceEqDiff, reduceIte, reduceCtorEq, Nat.reduceLeDiff, Nat.reduceLT, Nat.reduceSub, Int.reduceEq, Int.reduceLT, g0, g5, g6, strAt_nat, hg, hlt, CondV_true]
        refine CondV_split (fun h34 => ?_) fun h34 => ?_
        · have hy34 : y ≠ 34 := byte_ne (n := 34) (by simpa using h34) rfl
          simp -dsimp -implicitDefEqProofs only [go_sem, Nat.reduceAdd, Nat.reduceEqDiff, reduceIte, reduceCtorEq, Nat.reduceLeDiff, Nat.reduceLT, Nat.reduceSub, Int.reduceEq, Int.reduceLT, g0, g5, g6, strAt_nat, hg]
          refine CondV_split (fun h10 => ?_) fun h10 => ?_
          · have hy : y = 10 := byte_of h10 rfl
            simp -dsimp -implicitDefEqProofs only [go_sem, Nat.reduceAdd, Nat.reduceEqDiff, reduceIte, reduceCtorEq, Nat.reduceLeDiff, Nat.reduceLT, Nat.reduceSub, Int.reduceEq, Int.reduceLT]
            rw [← hst, hy]
            exact ⟨rfl, _, _, rfl, hfr⟩
          · have hy10 : y ≠ 10 := byte_ne h10 rfl
            rw [unqK, if_neg hy10, if_neg hy34] at hst
            simp -dsimp -implicitDefEqProofs only [go_sem, Nat.reduceAdd, Nat.reduceEqDiff, reduceIte, reduceCtorEq, Nat.reduceLeDiff, Nat.reduceLT, Nat.reduceSub, Int.reduceEq, Int.reduceLT]
            by_cases hpl : 32 ≤ y.toNat ∧ y.toNat ≤ 126
            · have r1 : decide ((y.toNat : Int) < 32) = false := by simp; omega
              have r2 : decide ((y.toNat : Int) > 126) = false := by simp; omega
              simp -dsimp -implicitDefEqProofs only [go_sem, Nat.reduceAdd, Nat.reduceEqDiff, reduceIte, reduceCtorEq, Nat.reduceLeDiff, Nat.reduceLT, Nat.reduceSub, Int.reduceEq, Int.reduceLT, r1, r2, CondV_true, g6, w1]
              refine CondV_split (fun h92 => ?_) fun h92 => ?_
              · have hy92 : y ≠ 92 := byte_ne (n := 92) (by simpa using h92) rfl
                rw [if_neg hy92, if_neg (by simp [plainB, hpl, hy34, hy92])] at hst
                simp -dsimp -implicitDefEqProofs only [go_sem, Nat.reduceAdd, Nat.reduceEqDiff, reduceIte, reduceCtorEq, Nat.reduceLeDiff, Nat.reduceLT, Nat.reduceSub, Int.reduceEq, Int.reduceLT, g5, partsV, happ]
                exact next y 1 _ (Nat.le_refl _) hj' hst g0 rfl rfl
              · have hy : y = 92 := byte_of (n := 92) (by simpa using h92) rfl
                rw [if_pos hy] at hst
                simp -dsimp -implicitDefEqProofs only [go_sem, Nat.reduceAdd, Nat.reduceEqDiff, reduceIte, reduceCtorEq, Nat.reduceLeDiff, Nat.reduceLT, Nat.reduceSub, Int.reduceEq, Int.reduceLT, g0]
                by_cases hj2 : j + 1 < S.length
                · have hge2 : decide (((j + 1 : Nat) : Int) ≥ (S.length : Int)) = false := by simp; omega
                  have hg2 := List.getElem?_eq_getElem hj2
                  have hdr2 : S.drop (j + 1) = S[j + 1] :: S.drop (j + 2) := List.drop_eq_getElem_cons hj2
                  generalize S[j + 1] = z at hg2 hdr2
                  have w2 : IntKind.wrap .i64 (((j + 1 : Nat) : Int) + 1) = ((j + 2 : Nat) : Int) := by rw [wrap_i64 (by omega) (by omega)]; omega
                  have e1 := byte_dec z 110 110 rfl
                  have e2 := byte_dec z 34 34 rfl
                  have e3 := byte_dec z 92 92 rfl
                  have e4 := byte_dec z 120 120 rfl
                  rw [hdr2, escP] at hst
                  simp -dsimp -implicitDefEqProofs only [go_sem, Nat.reduceAdd, Nat.reduceEqDiff, reduceIte, reduceCtorEq, Nat.reduceLeDiff, Nat.reduceLT, Nat.reduceSub, Int.reduceEq, Int.reduceLT, hge2, CondV_false, g0, g5, strAt_nat, hg2, w2, e1]
                  refine CondV_split (fun q1 => ?_) fun q1 => ?_
                  · have hz : z = 110 := by simpa using q1
                    rw [if_pos hz, if_neg (by simp), ← hdr2, unqK_drop, List.drop_drop] at hst
                    have h10 := happ 10
                    simp -dsimp -implicitDefEqProofs only [go_sem, Nat.reduceAdd, Nat.reduceEqDiff, reduceIte, reduceCtorEq, Nat.reduceLeDiff, Nat.reduceLT, Nat.reduceSub, Int.reduceEq, Int.reduceLT, g5, partsV, show (AV.int .u8 10) = .int .u8 ((10 : UInt8).toNat : Int) from rfl, h10]
                    exact next 10 2 _ (by decide) (by omega) hst g0 rfl rfl
                  · have hz1 : z ≠ 110 := by simpa using q1
                    rw [if_neg hz1] at hst
                    by_cases hz2 : z = 34
                    · have f2 : decide (z = 34) = true := by simpa using hz2
                      rw [if_pos hz2, if_neg (by simp), ← hdr2, unqK_drop, List.drop_drop] at hst
                      have h34' := happ z
                      simp -dsimp -implicitDefEqProofs only [go_sem, Nat.reduceAdd, Nat.reduceEqDiff, reduceIte, reduceCtorEq, Nat.reduceLeDiff, Nat.reduceLT, Nat.reduceSub, Int.reduceEq, Int.reduceLT, e2, f2, CondV_true, g5, partsV, h34']
                      exact next z 2 _ (by decide) (by omega) (by rw [hz2]; exact hst) g0 rfl rfl
                    · have f2 : decide (z = 34) = false := by simpa using hz2
                      rw [if_neg hz2] at hst
                      by_cases hz3 : z = 92
                      · have f3 : decide (z = 92) = true := by simpa using hz3
                        rw [if_pos hz3, if_neg (by simp), ← hdr2, unqK_drop, List.drop_drop] at hst
                        have h92' := happ z
                        simp -dsimp -implicitDefEqProofs only [go_sem, Nat.reduceAdd, Nat.reduceEqDiff, reduceIte, reduceCtorEq, Nat.reduceLeDiff, Nat.reduceLT, Nat.reduceSub, Int.reduceEq, Int.reduceLT, e2, f2, e3, f3, CondV_true, g5, partsV, h92']
                        exact next z 2 _ (by decide) (by omega) (by rw [hz3]; exact hst) g0 rfl rfl
                      · have f3 : decide (z = 92) = false := by simpa using hz3
                        rw [if_neg hz3] at hst
                        simp -dsimp -implicitDefEqProofs only [go_sem, Nat.reduceAdd, Nat.reduceEqDiff, reduceIte, reduceCtorEq, Nat.reduceLeDiff, Nat.reduceLT, Nat.reduceSub, Int.reduceEq, Int.reduceLT, e2, f2, e3, f3, CondV_true, CondV_false, g5, partsV, e4]
                        refine CondV_split (fun q4 => ?_) fun q4 => ?_
                        · have hz4 : z = 120 := by simpa using q4
                          rw [if_neg (show ¬ z ≠ 120 by simp [hz4])] at hst
                          simp -dsimp -implicitDefEqProofs only [go_sem, Nat.reduceAdd, Nat.reduceEqDiff, reduceIte, reduceCtorEq, Nat.reduceLeDiff, Nat.reduceLT, Nat.reduceSub, Int.reduceEq, Int.reduceLT]
                          let J : Nat → AEnv → ASt → Prop := fun m e st => ∃ q n : Nat, m = 2 - q ∧ q ≤ 2 ∧ n < 16 ^ q ∧ hexStep (2 - q) n (S.drop (j + 2 + q)) = hexStep 2 0 (S.drop (j + 2)) ∧ (q ≠ 0 → j + 2 + q ≤ S.length) ∧ e.get 0 = .str S ∧ e.get 5 = ownV i (acc.map byteV) ∧ e.get 6 = .int .i64 ((j + 2 + q : Nat) : Int) ∧ e.get 9 = .int .i64 (n : Int) ∧ e.get 10 = .int .i64 (q : Int) ∧ st = ⟨H, C, []⟩
                          refine LoopK_rule J 2 ⟨0, 0, rfl, by decide, by decide, rfl, by simp, g0, g5, rfl, rfl, rfl, rfl⟩ ?_
                          rintro m e st ⟨q, n, rfl, hq2, hn, hx, hql, g0, g5, g6, g9, g10, rfl⟩
                          simp -dsimp -implicitDefEqProofs only [go_sem, Nat.reduceAdd, Nat.reduceEqDiff, reduceIte, reduceCtorEq, Nat.reduceLeDiff, Nat.reduceLT, Nat.reduceSub, Int.reduceEq, Int.reduceLT, g10]
                          refine CondV_split (fun hc => ?_) fun hc => ?_
                          · have hqq : q < 2 := by simp at hc; omega
                            have h2q : 2 - q = (1 - q) + 1 := by omega
                            by_cases hj3 : j + 2 + q < S.length
                            · have hge3 : decide (((j + 2 + q : Nat) : Int) ≥ (S.length : Int)) = false := by simp; omega
                              have hg3 := List.getElem?_eq_getElem hj3
                              have hdr3 : S.drop (j + 2 + q) = S[j + 2 + q] :: S.drop (j + 2 + q + 1) := List.drop_eq_getElem_cons hj3
                              generalize S[j + 2 + q] = u at hg3 hdr3
                              rw [hdr3, h2q, hexStep] at hx
                              simp -dsimp -implicitDefEqProofs only [go_sem, Nat.reduceAdd, Nat.reduceEqDiff, reduceIte, reduceCtorEq, Nat.reduceLeDiff, Nat.reduceLT, Nat.reduceSub, Int.reduceEq, Int.reduceLT, g0, g5, g6, g9, g10, hge3, CondV_false, strAt_nat, hg3]
                              refine DoesK_of (hexd_call _ _) ?_
                              rintro v s' ⟨rfl, rfl⟩
                              cases hu : hexV u with
                              | none =>
                                rw [hu] at hx
                                have hI : hexI u = -1 := by rw [hexI, hu]
                                simp -dsimp -implicitDefEqProofs only [go_sem, Nat.reduceAdd, Nat.reduceEqDiff, reduceIte, reduceCtorEq, Nat.reduceLeDiff, Nat.reduceLT, Nat.reduceSub, Int.reduceEq, Int.reduceLT, hI]
                                rw [← hx] at hst
                                rw [← hst]
                                exact ⟨rfl, _, _, rfl, hfr⟩
                              | some y' =>
                                rw [hu] at hx
                                have hy16 := hexV_lt hu
                                have hn16 : n < 16 := by
                                  rcases (show q = 0 ∨ q = 1 by omega) with rfl | rfl
                                  · simp at hn; omega
                                  · simpa using hn
                                have hI : hexI u = (y' : Int) := by rw [hexI, hu]
                                have hI2 : decide ((y' : Int) < 0) = false := by simp
                                have v1 : IntKind.wrap .i64 (16 * (n : Int)) = ((16 * n : Nat) : Int) := by rw [wrap_i64 (by omega) (by omega)]; omega
                                have v2 : IntKind.wrap .i64 (((16 * n : Nat) : Int) + (y' : Int)) = ((16 * n + y' : Nat) : Int) := by rw [wrap_i64 (by omega) (by omega)]; omega
                                have v3 : IntKind.wrap .i64 (((j + 2 + q : Nat) : Int) + 1) = ((j + 2 + (q + 1) : Nat) : Int) := by rw [wrap_i64 (by omega) (by omega)]; omega
                                have v4 : IntKind.wrap .i64 ((q : Int) + 1) = ((q + 1 : Nat) : Int) := by rw [wrap_i64 (by omega) (by omega)]; omega
                                simp -dsimp -implicitDefEqProofs only [go_sem, Nat.reduceAdd, Nat.reduceEqDiff, reduceIte, reduceCtorEq, Nat.reduceLeDiff, Nat.reduceLT, Nat.reduceSub, Int.reduceEq, Int.reduceLT, hI, hI2, g6, g9, g10, v1, v2, v3, v4, CondV_false]
                                refine Again.of (2 - (q + 1)) (by omega) ⟨q + 1, 16 * n + y', rfl, by omega, ?_, ?_, fun _ => by omega, g0, g5, rfl, rfl, rfl, rfl⟩
                                · rcases (show q = 0 ∨ q = 1 by omega) with rfl | rfl
                                  · simp at hn; subst hn; simpa using hy16
                                  · simp at hn ⊢; omega
                                · rw [← hx, show 2 - (q + 1) = 1 - q by omega]; rfl
                            · have hge3 : decide (((j + 2 + q : Nat) : Int) ≥ (S.length : Int)) = true := by simp; omega
                              have hdr3 : S.drop (j + 2 + q) = [] := by rw [List.drop_eq_nil_iff]; omega
                              rw [hdr3, h2q, hexStep] at hx
                              rw [← hx] at hst
                              simp -dsimp -implicitDefEqProofs only [go_sem, Nat.reduceAdd, Nat.reduceEqDiff, reduceIte, reduceCtorEq, Nat.reduceLeDiff, Nat.reduceLT, Nat.reduceSub, Int.reduceEq, Int.reduceLT, g0, g6, hge3, CondV_true]
                              rw [← hst]
                              exact ⟨rfl, _, _, rfl, hfr⟩
                          · have hqq : q = 2 := by simp at hc; omega
                            subst hqq
                            have hx' : hexStep 2 0 (S.drop (j + 2)) = (0, UInt8.ofNat n, 3) := hx.symm
                            rw [hx', if_neg (by simp), ← hdr2, unqK_drop, List.drop_drop] at hst
                            have hn256 : n < 256 := by simpa using hn
                            have hw : IntKind.wrap .u8 (n : Int) = ((UInt8.ofNat n).toNat : Int) := by
                              rw [wrap_u8 (by omega) (by omega)]; simp [Nat.mod_eq_of_lt hn256]
                            have hap := happ (UInt8.ofNat n)
                            simp -dsimp -implicitDefEqProofs only [go_sem, Nat.reduceAdd, Nat.reduceEqDiff, reduceIte, reduceCtorEq, Nat.reduceLeDiff, Nat.reduceLT, Nat.reduceSub, Int.reduceEq, Int.reduceLT, g5, g9, partsV, hw, hap]
                            exact next _ 4 _ (by decide) (hql (by decide)) hst g0 rfl g6
                        · have hz4 : z ≠ 120 := by simpa using q4
                          rw [if_pos hz4] at hst
                          simp -dsimp -implicitDefEqProofs only [go_sem, Nat.reduceAdd, Nat.reduceEqDiff, reduceIte, reduceCtorEq, Nat.reduceLeDiff, Nat.reduceLT, Nat.reduceSub, Int.reduceEq, Int.reduceLT]
                          rw [← hst]
                          exact ⟨rfl, _, _, rfl, hfr⟩
                · have hge2 : decide (((j + 1 : Nat) : Int) ≥ (S.length : Int)) = true := by simp; omega
                  have hdr2 : S.drop (j + 1) = [] := by rw [List.drop_eq_nil_iff]; omega
                  rw [hdr2] at hst
                  simp -dsimp -implicitDefEqProofs only [go_sem, Nat.reduceAdd, Nat.reduceEqDiff, reduceIte, reduceCtorEq, Nat.reduceLeDiff, Nat.reduceLT, Nat.reduceSub, Int.reduceEq, Int.reduceLT, hge2, CondV_true]
                  rw [← hst]
                  exact ⟨rfl, _, _, rfl, hfr⟩
            · have hnp : plainB y = false := by
                simp only [plainB, Bool.and_eq_false_iff, decide_eq_false_iff_not]; omega
              have hy92 : y ≠ 92 := by intro e; apply hpl; rw [e]; decide
              rw [if_neg hy92, if_pos hnp] at hst
              cases r1 : decide ((y.toNat : Int) < 32) with
              | true =>
                simp -dsimp -implicitDefEqProofs only [go_sem, Nat.reduceAdd, Nat.reduceEqDiff, reduceIte, reduceCtorEq, Nat.reduceLeDiff, Nat.reduceLT, Nat.reduceSub, Int.reduceEq, Int.reduceLT, r1, CondV_true]
                rw [← hst]
                exact ⟨rfl, _, _, rfl, hfr⟩
              | false =>
                have r2 : decide ((y.toNat : Int) > 126) = true := by simp at r1 ⊢; omega
                simp -dsimp -implicitDefEqProofs only [go_sem, Nat.reduceAdd, Nat.reduceEqDiff, reduceIte, reduceCtorEq, Nat.reduceLeDiff, Nat.reduceLT, Nat.reduceSub, Int.reduceEq, Int.reduceLT, r1, r2, CondV_true]
                rw [← hst]
                exact ⟨rfl, _, _, rfl, hfr⟩
        · have hy : y = 34 := byte_of (n := 34) (by simpa using h34) rfl
          rw [unqK, if_neg (by simp [hy]), if_pos hy] at hst
          simp -dsimp -implicitDefEqProofs only [go_sem, Nat.reduceAdd, Nat.reduceEqDiff, reduceIte, reduceCtorEq, Nat.reduceLeDiff, Nat.reduceLT, Nat.reduceSub, Int.reduceEq, Int.reduceLT, g0, g5, g6, hge, len_own i _ how, List.length_map]
          refine CondV_split (fun hl => ?_) fun hl => ?_
          · have hl' : 60 < acc.length := by simp at hl; omega
            rw [if_pos hl'] at hst
            simp -dsimp -implicitDefEqProofs only [go_sem, Nat.reduceAdd, Nat.reduceEqDiff, reduceIte, reduceCtorEq, Nat.reduceLeDiff, Nat.reduceLT, Nat.reduceSub, Int.reduceEq, Int.reduceLT]
            rw [← hst]
            exact ⟨rfl, _, _, rfl, hfr⟩
          · have hl' : ¬ 60 < acc.length := by simp at hl; omega
            rw [if_neg hl'] at hst
            simp -dsimp -implicitDefEqProofs only [go_sem, Nat.reduceAdd, Nat.reduceEqDiff, reduceIte, reduceCtorEq, Nat.reduceLeDiff, Nat.reduceLT, Nat.reduceSub, Int.reduceEq, Int.reduceLT, g0, g5, g6, str_own i acc how, w1]
            rw [← hst]
            exact ⟨rfl, _, _, rfl, hfr⟩
      · have hlt : decide ((j : Int) < (S.length : Int)) = false := by simp; omega
        have hge : decide ((j : Int) ≥ (S.length : Int)) = true := by simp; omega
        have hdr : S.drop j = [] := by rw [List.drop_eq_nil_iff]; omega
        simp -dsimp -implicitDefEqProofs only [go_sem, Nat.reduceAdd, Nat.reduceEqDiff, reduceIte, reduceCtorEq, Nat.reduceLeDiff, Nat.reduceLT, Nat.reduceSub, Int.reduceEq, Int.reduceLT, g0, g5, g6, hlt, hge, CondV_false]
        rw [← hst, hdr]
        exact ⟨rfl, _, _, rfl, hfr⟩

end Go.Proofs.YtggdpckdlcngpaaDoor
