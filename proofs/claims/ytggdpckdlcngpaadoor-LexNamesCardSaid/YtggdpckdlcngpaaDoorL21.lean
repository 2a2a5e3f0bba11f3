/- The document's tokens. -/
import Derived.Test.YtggdpckdlcngpaaDoorL20
set_option linter.unusedVariables false
set_option linter.unusedSimpArgs false
namespace Go.Proofs.YtggdpckdlcngpaaDoor
open Abs Go.RowKit

theorem toksP_at (s : List UInt8) (f j j' : Nat) (acc : List (Tk × Nat)) (h : j + skipM false (s.drop j) = j' + skipM false (s.drop j')) : toksP s f j acc = toksP s f j' acc := by
  cases f with
  | zero => rfl
  | succ f => simp only [toksP, h]

theorem skip_blank {c : UInt8} (h : c = 32 ∨ c = 9 ∨ c = 10) (r : List UInt8) : skipM false (c :: r) = 1 + skipM false r := by
  rw [skipM, if_pos h]
theorem skip_none {c : UInt8} (h : ¬ (c = 32 ∨ c = 9 ∨ c = 10)) (h' : c ≠ 35) (r : List UInt8) : skipM false (c :: r) = 0 := by
  rw [skipM, if_neg h, if_neg h']

set_option maxHeartbeats 4000000 in
theorem rtokens_call (s : List UInt8) (h : Hp) (c : Nat) (d : List (Nat × List AV)) :
    Does X 12 [.str s] ⟨h, c, d⟩ fun v s' => ∃ o, v = .tuple [.slice o ((Toks s).1.map tkV), .int .i64 ((Toks s).2.1 : Int), .int .i64 (Toks s).2.2] ∧ ∃ h' c', s' = ⟨h', c', d⟩ ∧ Fr h c h' c' [] := by
  refine call_aw b12 rfl rfl rfl ?_; delta b12
  simp -dsimp -implicitDefEqProofs only [go_sem, Nat.reduceAdd, Nat.reduceEqDiff, reduceIte, reduceCtorEq, Nat.reduceLeDiff, Nat.reduceLT, Nat.reduceSub, Int.reduceEq, Int.reduceLT]
  refine CondV_split (fun hc => ?_) fun hc => ?_
  · have hl : 2000 < s.length := by simp at hc; omega
    simp -dsimp -implicitDefEqProofs only [go_sem, Nat.reduceAdd, Nat.reduceEqDiff, reduceIte, reduceCtorEq, Nat.reduceLeDiff, Nat.reduceLT, Nat.reduceSub, Int.reduceEq, Int.reduceLT]
    rw [Toks, if_pos hl]
    exact ⟨_, rfl, _, _, rfl, Fr.refl _ _ _⟩
  · have hl : ¬ 2000 < s.length := by simp at hc; omega
    rw [Toks, if_neg hl]
    simp -dsimp -implicitDefEqProofs only [go_sem, Nat.reduceAdd, Nat.reduceEqDiff, reduceIte, reduceCtorEq, Nat.reduceLeDiff, Nat.reduceLT, Nat.reduceSub, Int.reduceEq, Int.reduceLT]
    let I : Nat → AEnv → ASt → Prop := fun m e st => ∃ (j f : Nat) (acc : List (Tk × Nat)) (i : Option Nat) (H : Hp) (C : Nat), m = s.length - j ∧ s.length + 1 - j ≤ f ∧ j ≤ s.length ∧ acc.length ≤ j ∧ toksP s f j acc = toksP s (s.length + 1) 0 [] ∧ Fr h c H C [] ∧ OwnH H 4 i (acc.map tkV) ∧ (∀ k, i = some k → c ≤ k ∧ k < C) ∧
      e.get 0 = .str s ∧ e.get 5 = ownV i (acc.map tkV) ∧ e.get 6 = .int .i64 (j : Int) ∧ st = ⟨H, C, []⟩
    refine LoopK_rule I s.length ⟨0, s.length + 1, [], none, _, _, rfl, Nat.le_refl _, Nat.zero_le _, by simp, rfl, Fr.refl _ _ _, rfl, by simp, rfl, rfl, rfl, rfl⟩ ?_
    rintro m e st ⟨j, f, acc, i, H, C, rfl, hf, hj, hacc, hst, hfr, how, hi, g0, g5, g6, rfl⟩
    obtain ⟨f, rfl⟩ : ∃ g, f = g + 1 := ⟨f - 1, by omega⟩
    cases hlt : decide ((j : Int) < (s.length : Int)) with
    | false =>
      have hjl : j = s.length := by simp at hlt; omega
      subst hjl
      rw [toksP, List.drop_length] at hst
      have hst2 : (acc ++ [((⟨0, [], 0⟩ : Tk), s.length)], 0, 0) = toksP s (s.length + 1) 0 [] := by rw [← hst]; simp [skipM, tokP]
      have happ : appK C 0 4 40 ⟨H, C + 1, []⟩ (ownV i (acc.map tkV)) (.slice .full [.agg [.int .i64 0, .str [], .int .i64 0, .int .i64 (s.length : Int)]]) = some (ownV (some (i.getD C)) ((acc ++ [((⟨0, [], 0⟩ : Tk), s.length)]).map tkV), ⟨upd H (i.getD C) (.arr (acc.length + 1) 4), C + 1, []⟩) := by
        have := @appK_one C 0 4 40 H (C + 1) [] i (acc.map tkV) (tkV (⟨0, [], 0⟩, s.length)) .full how rfl (by simp; omega)
        simp only [List.length_map, Nat.add_zero] at this
        rw [List.map_append]
        exact this
      have hci : c ≤ i.getD C ∧ i.getD C < C + 1 := by
        have := hfr.le
        cases hi' : i with
        | none => simp; omega
        | some k' => have := hi k' hi'; simp; omega
      simp -dsimp -implicitDefEqProofs only [go_sem, Nat.reduceAdd, Nat.reduceEqDiff, reduceIte, reduceCtorEq, Nat.reduceLeDiff, Nat.reduceLT, Nat.reduceSub, Int.reduceEq, Int.reduceLT, g0, g5, g6, hlt, CondV_false, fillV, partsV, happ]
      rw [← hst2]
      refine ⟨_, rfl, _, _, rfl, ?_⟩
      exact hfr.upd _ (.inr hci.1) (Nat.le_succ _)
    | true =>
      have hjl : j < s.length := by simpa using hlt
      obtain ⟨y, hg⟩ : ∃ y, s[j]? = some y := ⟨_, List.getElem?_eq_getElem hjl⟩
      have hdr : s.drop j = y :: s.drop (j + 1) := by rw [List.drop_eq_getElem_cons hjl]; rw [List.getElem?_eq_getElem hjl] at hg; injection hg with hg; rw [hg]
      have w1 : IntKind.wrap .i64 ((j : Int) + 1) = ((j + 1 : Nat) : Int) := by rw [wrap_i64 (by omega) (by omega)]; omega
      have q32 := byte_dec y 32 32 rfl
      have q9 := byte_dec y 9 9 rfl
      have q10 := byte_dec y 10 10 rfl
      have q35 := byte_dec y 35 35 rfl
      by_cases hb : y = 32 ∨ y = 9 ∨ y = 10
      · have hsk : j + skipM false (s.drop j) = (j + 1) + skipM false (s.drop (j + 1)) := by rw [hdr, skip_blank hb]; omega
        rw [toksP_at s _ j (j + 1) acc hsk] at hst
        have again : ∀ e' : AEnv, e'.get 0 = .str s → e'.get 5 = ownV i (acc.map tkV) → e'.get 6 = .int .i64 ((j + 1 : Nat) : Int) → Again I .mk (s.length - j) e' ⟨H, C, []⟩ := fun e' a0 a5 a6 =>
          Again.of (s.length - (j + 1)) (by omega) ⟨j + 1, f + 1, acc, i, H, C, rfl, by omega, hjl, by omega, hst, hfr, how, hi, a0, a5, a6, rfl⟩
        rcases hb with hb | hb | hb
        · have f1 : decide (y = 32) = true := by simpa using hb
          simp -dsimp -implicitDefEqProofs only [go_sem, Nat.reduceAdd, Nat.reduceEqDiff, reduceIte, reduceCtorEq, Nat.reduceLeDiff, Nat.reduceLT, Nat.reduceSub, Int.reduceEq, Int.reduceLT, g0, g6, hlt, CondV_true, CondV_false, strAt_nat, hg, q32, f1, w1]
          exact again _ g0 g5 rfl
        · have f1 : decide (y = 32) = false := by rw [hb]; rfl
          have f2 : decide (y = 9) = true := by simpa using hb
          simp -dsimp -implicitDefEqProofs only [go_sem, Nat.reduceAdd, Nat.reduceEqDiff, reduceIte, reduceCtorEq, Nat.reduceLeDiff, Nat.reduceLT, Nat.reduceSub, Int.reduceEq, Int.reduceLT, g0, g6, hlt, CondV_true, CondV_false, strAt_nat, hg, q32, f1, q9, f2, w1]
          exact again _ g0 g5 rfl
        · have f1 : decide (y = 32) = false := by rw [hb]; rfl
          have f2 : decide (y = 9) = false := by rw [hb]; rfl
          have f3 : decide (y = 10) = true := by simpa using hb
          simp -dsimp -implicitDefEqProofs only [go_sem, Nat.reduceAdd, Nat.reduceEqDiff, reduceIte, reduceCtorEq, Nat.reduceLeDiff, Nat.reduceLT, Nat.reduceSub, Int.reduceEq, Int.reduceLT, g0, g6, hlt, CondV_true, CondV_false, strAt_nat, hg, q32, f1, q9, f2, q10, f3, w1]
          exact again _ g0 g5 rfl
      · have f1 : decide (y = 32) = false := by simp; intro e0; exact hb (.inl e0)
        have f2 : decide (y = 9) = false := by simp; intro e0; exact hb (.inr (.inl e0))
        have f3 : decide (y = 10) = false := by simp; intro e0; exact hb (.inr (.inr e0))
        simp -dsimp -implicitDefEqProofs only [go_sem, Nat.reduceAdd, Nat.reduceEqDiff, reduceIte, reduceCtorEq, Nat.reduceLeDiff, Nat.reduceLT, Nat.reduceSub, Int.reduceEq, Int.reduceLT, g0, g6, hlt, CondV_true, CondV_false, strAt_nat, hg, q32, f1, q9, f2, q10, f3, q35]
        refine CondV_split (fun h35 => ?_) fun h35 => ?_
        · have hy : y = 35 := by simpa using h35
          simp -dsimp -implicitDefEqProofs only [go_sem, Nat.reduceAdd, Nat.reduceEqDiff, reduceIte, reduceCtorEq, Nat.reduceLeDiff, Nat.reduceLT, Nat.reduceSub, Int.reduceEq, Int.reduceLT]
          let J : Nat → AEnv → ASt → Prop := fun m e st => ∃ q : Nat, m = s.length - q ∧ j ≤ q ∧ q ≤ s.length ∧ q + skipM true (s.drop q) = j + skipM false (s.drop j) ∧ e.get 0 = .str s ∧ e.get 5 = ownV i (acc.map tkV) ∧ e.get 6 = .int .i64 (q : Int) ∧ st = ⟨H, C, []⟩
          have hsk0 : j + skipM true (s.drop j) = j + skipM false (s.drop j) := by rw [hdr, hy]; simp [skipM]
          refine LoopK_rule J (s.length - j) ⟨j, rfl, Nat.le_refl _, hj, hsk0, g0, g5, g6, rfl⟩ ?_
          rintro m e st ⟨q, rfl, hjq, hq, hsk, g0, g5, g6, rfl⟩
          have ends : ∀ e' : AEnv, q ≠ j → q + skipM false (s.drop q) = q + skipM true (s.drop q) → e'.get 0 = .str s → e'.get 5 = ownV i (acc.map tkV) → e'.get 6 = .int .i64 (q : Int) → Again I .mk (s.length - j) e' ⟨H, C, []⟩ := by
            intro e' hne hss a0 a5 a6
            have hst2 : toksP s (f + 1) q acc = toksP s (s.length + 1) 0 [] := by rw [← hst]; exact toksP_at s _ q j acc (by omega)
            exact Again.of (s.length - q) (by omega) ⟨q, f + 1, acc, i, H, C, rfl, by omega, hq, by omega, hst2, hfr, how, hi, a0, a5, a6, rfl⟩
          cases hlq : decide ((q : Int) < (s.length : Int)) with
          | false =>
            have hqe : q = s.length := by simp at hlq; omega
            simp -dsimp -implicitDefEqProofs only [go_sem, Nat.reduceAdd, Nat.reduceEqDiff, reduceIte, reduceCtorEq, Nat.reduceLeDiff, Nat.reduceLT, Nat.reduceSub, Int.reduceEq, Int.reduceLT, g0, g6, hlq, CondV_false]
            refine ends _ (by omega) ?_ g0 g5 g6
            rw [List.drop_eq_nil_of_le (by omega)]; simp [skipM]
          | true =>
            have hql : q < s.length := by simpa using hlq
            obtain ⟨z, hgz⟩ : ∃ z, s[q]? = some z := ⟨_, List.getElem?_eq_getElem hql⟩
            have hdz : s.drop q = z :: s.drop (q + 1) := by rw [List.drop_eq_getElem_cons hql]; rw [List.getElem?_eq_getElem hql] at hgz; injection hgz with hgz; rw [hgz]
            have p10 := byte_decn z 10 10 rfl
            simp -dsimp -implicitDefEqProofs only [go_sem, Nat.reduceAdd, Nat.reduceEqDiff, reduceIte, reduceCtorEq, Nat.reduceLeDiff, Nat.reduceLT, Nat.reduceSub, Int.reduceEq, Int.reduceLT, g0, g6, hlq, CondV_true, strAt_nat, hgz, p10]
            refine CondV_split (fun hz => ?_) fun hz => ?_
            · have hz' : z ≠ 10 := by simpa using hz
              simp -dsimp -implicitDefEqProofs only [go_sem, Nat.reduceAdd, Nat.reduceEqDiff, reduceIte, reduceCtorEq, Nat.reduceLeDiff, Nat.reduceLT, Nat.reduceSub, Int.reduceEq, Int.reduceLT, g6]
              refine Again.of (s.length - (q + 1)) (by omega) ⟨q + 1, rfl, by omega, hql, ?_, g0, g5, ?_, rfl⟩
              · rw [← hsk, hdz, skipM, if_neg hz']; omega
              · show AV.int .i64 (IntKind.wrap .i64 ((q : Int) + 1)) = _
                rw [wrap_i64 (by omega) (by omega)]; rfl
            · have hz' : z = 10 := by simpa using hz
              simp -dsimp -implicitDefEqProofs only [go_sem, Nat.reduceAdd, Nat.reduceEqDiff, reduceIte, reduceCtorEq, Nat.reduceLeDiff, Nat.reduceLT, Nat.reduceSub, Int.reduceEq, Int.reduceLT, g6]
              refine ends _ ?_ ?_ g0 g5 g6
              · rintro rfl
                rw [hg] at hgz; injection hgz with e0
                rw [hy, hz'] at e0; exact absurd e0 (by decide)
              · rw [hdz, hz']; simp [skipM]
        · have hy : y ≠ 35 := by simpa using h35
          have hsk : skipM false (s.drop j) = 0 := by rw [hdr]; exact skip_none hb hy _
          have hjle : j ≤ s.length := hj
          simp -dsimp -implicitDefEqProofs only [go_sem, Nat.reduceAdd, Nat.reduceEqDiff, reduceIte, reduceCtorEq, Nat.reduceLeDiff, Nat.reduceLT, Nat.reduceSub, Int.reduceEq, Int.reduceLT, g0, g6, hjle, preH]
          rw [toksP, hsk, Nat.add_zero] at hst
          have htl := tokP_len (s.drop j)
          rw [List.length_drop] at htl
          have hcall := rtoken_call y (s.drop (j + 1)) (by rw [← hdr]; simp; omega) (upd H C (.cells zeroT)) (C + 1) []
          rw [← hdr] at hcall
          generalize hp : tokP (s.drop j) = p at *
          obtain ⟨p1, ⟨pk, pt, pn⟩, pl⟩ := p
          refine DoesK_of hcall ?_
          rintro v s' ⟨k, w, n, l, H1, C1, rfl, rfl, f1', hres⟩
          simp only at hst hres htl
          have hz : H1 C = some (.cells zeroT) := (f1'.at (Nat.lt_succ_self _) (by simp)).trans (upd_same _ _ _)
          by_cases he : p1 = 0
          · subst he
            obtain ⟨rfl, rfl, rfl, hl⟩ := hres rfl
            subst hl
            rw [if_neg (by simp)] at hst
            obtain ⟨hl1, hl2, hl3⟩ := htl rfl
            have hkne : k ≠ 0 := by intro e0; have := hl2 e0; rw [hdr] at this; cases this
            rw [if_neg hkne] at hst
            have hpl := hl3 (by rw [hdr]; simp)
            have hH2 : ∀ k', i = some k' → upd H1 C (.cells [.int .i64 k, .str w, .int .i64 n, .int .i64 (j : Int)]) k' = H k' := by
              intro k' hk
              obtain ⟨h1, h2⟩ := hi k' hk
              rw [upd_ne _ _ (by omega), f1'.at (by omega) (by simp), upd_ne _ _ (by omega)]
            have happ : appK C1 0 4 40 ⟨upd H1 C (.cells [.int .i64 k, .str w, .int .i64 n, .int .i64 (j : Int)]), C1 + 1, []⟩ (ownV i (acc.map tkV)) (.slice .full [.agg [.int .i64 k, .str w, .int .i64 n, .int .i64 (j : Int)]]) = some (ownV (some (i.getD C1)) ((acc ++ [((⟨k, w, n⟩ : Tk), j)]).map tkV), ⟨upd (upd H1 C (.cells [.int .i64 k, .str w, .int .i64 n, .int .i64 (j : Int)])) (i.getD C1) (.arr (acc.length + 1) 4), C1 + 1, []⟩) := by
              have := @appK_one C1 0 4 40 (upd H1 C (.cells (tokC k w n j))) (C1 + 1) [] i (acc.map tkV) (tkV (⟨k, w, n⟩, j)) .full (how.keep hH2) rfl (by simp; omega)
              simp only [List.length_map, Nat.add_zero] at this
              rw [List.map_append]
              exact this
            have hCC1 := f1'.le
            have hcC := hfr.le
            have hci : c ≤ i.getD C1 ∧ i.getD C1 < C1 + 1 := by
              cases hi' : i with
              | none => simp; omega
              | some k' => have := hi k' hi'; simp; omega
            have w2 : IntKind.wrap .i64 ((j : Int) + (l : Int)) = ((j + l : Nat) : Int) := by rw [wrap_i64 (by omega) (by omega)]; omega
            simp -dsimp -implicitDefEqProofs only [go_sem, Nat.reduceAdd, Nat.reduceEqDiff, reduceIte, reduceCtorEq, Nat.reduceLeDiff, Nat.reduceLT, Nat.reduceSub, Int.reduceEq, Int.reduceLT, OpK_alloc, hz, zeroT, tokC, ldCells, partsV, g5, g6, happ, w2]
            refine Again.of (s.length - (j + l)) (by omega) ⟨j + l, f, acc ++ [(⟨k, w, n⟩, j)], some (i.getD C1), _, _, rfl, by omega, by omega, by simp; omega, hst, ?_, ?_, ?_, g0, rfl, rfl, rfl⟩
            · exact ((((hfr.upd _ (.inr hcC) (Nat.le_succ _)).trans f1' (by simp)).upd _ (.inr hcC) (Nat.le_refl _)).upd _ (.inr (by omega)) (Nat.le_succ _))
            · simp [OwnH, upd_same]
            · rintro k' hk'; injection hk' with hk'; subst hk'; exact hci
          · rw [if_pos he] at hst
            simp -dsimp -implicitDefEqProofs only [go_sem, Nat.reduceAdd, Nat.reduceEqDiff, reduceIte, reduceCtorEq, Nat.reduceLeDiff, Nat.reduceLT, Nat.reduceSub, Int.reduceEq, Int.reduceLT, OpK_alloc, hz, zeroT, tokC, he, g6]
            rw [← hst]
            exact ⟨_, rfl, _, _, rfl, ((hfr.upd _ (.inr hfr.le) (Nat.le_succ _)).trans f1' (by simp)).upd _ (.inr hfr.le) (Nat.le_refl _)⟩

end Go.Proofs.YtggdpckdlcngpaaDoor
