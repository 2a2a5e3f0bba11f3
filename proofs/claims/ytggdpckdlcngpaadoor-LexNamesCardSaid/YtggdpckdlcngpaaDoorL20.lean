/- The document's token. -/
import Derived.Test.YtggdpckdlcngpaaDoorL19
set_option linter.unusedVariables false
set_option linter.unusedSimpArgs false
namespace Go.Proofs.YtggdpckdlcngpaaDoor
open Abs Go.RowKit

theorem indexByte_ge : ∀ (l : List UInt8) (c : UInt8), decide (Lib.indexByte l c ≥ 0) = decide (c ∈ l)
  | [], c => by simp [Lib.indexByte]
  | b :: l, c => by
    have ih := indexByte_ge l c
    rw [decide_eq_decide] at ih ⊢
    by_cases h : b = c
    · subst h; simp [Lib.indexByte]
    · have h' : (b == c) = false := by simpa using h
      simp only [Lib.indexByte, h', Bool.false_eq_true, if_false]
      have hne : ¬ c = b := fun e => h e.symm
      simp only [List.mem_cons, hne, false_or]
      rw [← ih]
      split
      · rename_i h1
        have : Lib.indexByte l c = -1 := by simpa using h1
        simp [this]
      · rename_i h1
        have h2 : Lib.indexByte l c ≠ -1 := by simpa using h1
        have : -1 ≤ Lib.indexByte l c := by
          clear ih h1 h2
          induction l with
          | nil => simp [Lib.indexByte]
          | cons x y ih2 => simp only [Lib.indexByte]; split <;> (try split) <;> omega
        omega

theorem rsign_call (x : UInt8) (st : ASt) : Does X 36 [.int .u8 x.toNat] st fun v s' => v = .bool (signB x) ∧ s' = st := by
  obtain ⟨h, c, d⟩ := st
  refine call_aw b36 rfl rfl rfl ?_; delta b36
  simp -dsimp -implicitDefEqProofs only [go_sem, Nat.reduceAdd, Nat.reduceEqDiff, reduceIte, reduceCtorEq, Nat.reduceLeDiff, Nat.reduceLT, Nat.reduceSub, Int.reduceEq, Int.reduceLT]
  have hS : signB x = decide (x ∈ signsText) := by rw [signB, indexByte_ge]
  let I : Nat → AEnv → ASt → Prop := fun m e st => ∃ j : Nat, m = 14 - j ∧ j ≤ 14 ∧ (∀ i, i < j → signsText[i]? ≠ some x) ∧ e.get 0 = .int .u8 x.toNat ∧ e.get 3 = .str signsText ∧ e.get 4 = .int .i64 (j : Int) ∧ st = ⟨h, c, []⟩
  refine LoopK_rule I 14 ⟨0, rfl, Nat.zero_le _, fun i hi => by omega, rfl, rfl, rfl, rfl⟩ ?_
  rintro m e st ⟨j, rfl, hj, hno, g0, g3, g4, rfl⟩
  have hl : (signsText.length : Int) = 14 := rfl
  simp -dsimp -implicitDefEqProofs only [go_sem, Nat.reduceAdd, Nat.reduceEqDiff, reduceIte, reduceCtorEq, Nat.reduceLeDiff, Nat.reduceLT, Nat.reduceSub, Int.reduceEq, Int.reduceLT, g0, g3, g4, hl]
  refine CondV_split (fun hc => ?_) fun hc => ?_
  · have hj' : j < 14 := by simp at hc; omega
    obtain ⟨w, hg⟩ : ∃ w, signsText[j]? = some w := ⟨_, List.getElem?_eq_getElem (show j < signsText.length from hj')⟩
    simp -dsimp -implicitDefEqProofs only [go_sem, Nat.reduceAdd, Nat.reduceEqDiff, reduceIte, reduceCtorEq, Nat.reduceLeDiff, Nat.reduceLT, Nat.reduceSub, Int.reduceEq, Int.reduceLT, g0, g3, g4, strAt_nat, hg]
    refine CondV_split (fun hq => ?_) fun hq => ?_
    · have hx : w = x := by rwa [decide_eq_true_eq, byte_eq] at hq
      simp -dsimp -implicitDefEqProofs only [go_sem, Nat.reduceAdd, Nat.reduceEqDiff, reduceIte, reduceCtorEq, Nat.reduceLeDiff, Nat.reduceLT, Nat.reduceSub, Int.reduceEq, Int.reduceLT]
      rw [hS, decide_eq_true (List.mem_of_getElem? (hg.trans (by rw [hx])))]
    · have hx : w ≠ x := by rwa [decide_eq_false_iff_not, byte_eq] at hq
      simp -dsimp -implicitDefEqProofs only [go_sem, Nat.reduceAdd, Nat.reduceEqDiff, reduceIte, reduceCtorEq, Nat.reduceLeDiff, Nat.reduceLT, Nat.reduceSub, Int.reduceEq, Int.reduceLT, g0, g3, g4]
      refine Again.of (14 - (j + 1)) (by omega) ⟨j + 1, rfl, by omega, fun i hi => ?_, g0, g3, ?_, rfl⟩
      · rcases Nat.lt_or_ge i j with h' | h'
        · exact hno i h'
        · obtain rfl : i = j := by omega
          rw [hg]; simpa using hx
      · show AV.int .i64 (IntKind.wrap .i64 ((j : Int) + 1)) = _
        rw [wrap_i64 (by omega) (by omega)]; rfl
  · have hj' : j = 14 := by simp at hc; omega
    simp -dsimp -implicitDefEqProofs only [go_sem, Nat.reduceAdd, Nat.reduceEqDiff, reduceIte, reduceCtorEq, Nat.reduceLeDiff, Nat.reduceLT, Nat.reduceSub, Int.reduceEq, Int.reduceLT]
    rw [hS, decide_eq_false]
    intro hm
    obtain ⟨i, hi⟩ := List.mem_iff_getElem?.1 hm
    have hil : i < signsText.length := by
      rcases Nat.lt_or_ge i signsText.length with h' | h'
      · exact h'
      · rw [List.getElem?_eq_none h'] at hi; cases hi
    exact hno i (by rw [hj']; exact hil) hi

/-- What token answers. -/
def TokA (h : Hp) (c : Nat) (d : List (Nat × List AV)) (p : Int × Tk × Nat) : AV → ASt → Prop := fun v s' =>
  ∃ (k : Int) (w : List UInt8) (n : Int) (l : Nat) (h' : Hp) (c' : Nat), v = .tuple [.agg (tokC k w n 0), .int .i64 (l : Int), .int .i64 p.1] ∧ s' = ⟨h', c', d⟩ ∧ Fr h c h' c' [] ∧ (p.1 = 0 → k = p.2.1.k ∧ w = p.2.1.t ∧ n = p.2.1.n ∧ l = p.2.2)

set_option maxHeartbeats 4000000 in
theorem rtoken_call (x : UInt8) (r : List UInt8) (hs : (x :: r).length < 4294967281) (h : Hp) (c : Nat) (d : List (Nat × List AV)) : Does X 19 [.str (x :: r)] ⟨h, c, d⟩ (TokA h c d (tokP (x :: r))) := by
  refine call_aw b19 rfl rfl rfl ?_; delta b19
  have hs0 : strAt (.int .i64 0) (.str (x :: r)) = some (.int .u8 x.toNat) := rfl
  simp -dsimp -implicitDefEqProofs only [go_sem, Nat.reduceAdd, Nat.reduceEqDiff, reduceIte, reduceCtorEq, Nat.reduceLeDiff, Nat.reduceLT, Nat.reduceSub, Int.reduceEq, Int.reduceLT, preH, OpK_alloc, hs0]
  refine DoesK_of (rdigit_call _ _) ?_
  rintro v s' ⟨rfl, rfl⟩
  have hc0 : upd h c (.cells zeroT) c = some (.cells zeroT) := upd_same _ _ _
  have hF : Fr h c (upd h c (.cells zeroT)) (c + 1) [] := (Fr.refl _ _ _).upd _ (.inr (Nat.le_refl _)) (Nat.le_succ _)
  simp -dsimp -implicitDefEqProofs only [go_sem, Nat.reduceAdd, Nat.reduceEqDiff, reduceIte, reduceCtorEq, Nat.reduceLeDiff, Nat.reduceLT, Nat.reduceSub, Int.reduceEq, Int.reduceLT]
  refine CondV_split (fun hd => ?_) fun hd => ?_
  · change Aw X _ _ _ _ _ ⟨upd h c (.cells zeroT), _, _⟩
    generalize upd h c (.cells zeroT) = H at hc0 hF ⊢
    simp -dsimp -implicitDefEqProofs only [go_sem, Nat.reduceAdd, Nat.reduceEqDiff, reduceIte, reduceCtorEq, Nat.reduceLeDiff, Nat.reduceLT, Nat.reduceSub, Int.reduceEq, Int.reduceLT]
    have hd : digitB x = true := hd
    have hP : tokP (x :: r) = if decV 0 ((x :: r).takeWhile digitB) ≤ 4611686018427387903 then (0, ⟨1, [], (decV 0 ((x :: r).takeWhile digitB) : Nat)⟩, ((x :: r).takeWhile digitB).length) else (13, ⟨0, [], 0⟩, 0) := by
      rw [tokP, if_pos hd]
    have hw1 : 1 ≤ ((x :: r).takeWhile digitB).length := by rw [List.takeWhile_cons, if_pos hd]; simp
    have hdig := digits_take (x :: r)
    have htk := spanN_take digitB (x :: r)
    have hsp1 : 1 + spanN digitB ((x :: r).drop 1) = ((x :: r).takeWhile digitB).length := by
      have := spanN_cons digitB x r
      rw [if_pos hd] at this
      exact this.symm
    have hwle := takeWhile_len digitB (x :: r)
    rw [spanN] at htk
    rw [hP]
    generalize hS : x :: r = S at *
    generalize hw : S.takeWhile digitB = w at *
    have hS1 : 1 ≤ S.length := by rw [← hS]; simp
    let I : Nat → AEnv → ASt → Prop := fun m e st => ∃ j : Nat, m = S.length - j ∧ 1 ≤ j ∧ j ≤ S.length ∧ j + spanN digitB (S.drop j) = w.length ∧ e.get 0 = .str S ∧ e.get 2 = .ptr c 0 ∧ e.get 6 = .int .i64 (j : Int) ∧ st = ⟨H, c + 1, []⟩
    refine LoopK_rule I (S.length - 1) ⟨1, rfl, Nat.le_refl _, hS1, hsp1, rfl, rfl, rfl, rfl⟩ ?_
    rintro m e st ⟨j, rfl, hj1, hj, hjs, g0, g2, g6, rfl⟩
    have tail : ∀ (e : AEnv) (K : AV → ASt → Prop), True := fun _ _ => trivial
    by_cases hj' : j < S.length ∧ digitB (S[j]?.getD 0) = true
    · obtain ⟨hjl, hdj⟩ := hj'
      have hlt : decide ((j : Int) < (S.length : Int)) = true := by simp; omega
      have hg := List.getElem?_eq_getElem hjl
      have hdr : S.drop j = S[j] :: S.drop (j + 1) := List.drop_eq_getElem_cons hjl
      generalize S[j] = y at hg hdr
      rw [hg, Option.getD_some] at hdj
      simp -dsimp -implicitDefEqProofs only [go_sem, Nat.reduceAdd, Nat.reduceEqDiff, reduceIte, reduceCtorEq, Nat.reduceLeDiff, Nat.reduceLT, Nat.reduceSub, Int.reduceEq, Int.reduceLT, g0, g6, hlt, CondV_true, strAt_nat, hg]
      refine DoesK_of (rdigit_call _ _) ?_
      rintro v s' ⟨rfl, rfl⟩
      have hdj' : isDigit (y.toNat : Int) = true := hdj
      simp -dsimp -implicitDefEqProofs only [go_sem, Nat.reduceAdd, Nat.reduceEqDiff, reduceIte, reduceCtorEq, Nat.reduceLeDiff, Nat.reduceLT, Nat.reduceSub, Int.reduceEq, Int.reduceLT, hdj', CondV_true, g6]
      refine Again.of (S.length - (j + 1)) (by omega) ⟨j + 1, rfl, by omega, hjl, ?_, g0, g2, ?_, rfl⟩
      · rw [← hjs, hdr, spanN_cons, if_pos hdj]; omega
      · show AV.int .i64 (IntKind.wrap .i64 ((j : Int) + 1)) = _
        rw [wrap_i64 (by omega) (by omega)]; rfl
    · have hjN : j = w.length := by
        rcases Nat.lt_or_ge j S.length with hjl | hjl
        · have hg := List.getElem?_eq_getElem hjl
          have hdr : S.drop j = S[j] :: S.drop (j + 1) := List.drop_eq_getElem_cons hjl
          rw [← hjs, hdr, spanN_cons, if_neg]
          · rfl
          · intro h1; exact hj' ⟨hjl, by rw [hg]; exact h1⟩
        · rw [← hjs, List.drop_eq_nil_of_le hjl]; rfl
      have hwS : w.length ≤ S.length := hwle
      have hwg : ∀ k, k < w.length → S[k]? = w[k]? := by
        intro k hk
        have h1 : w[k]? = (S.take w.length)[k]? := by rw [htk]
        rw [h1, List.getElem?_take, if_pos hk]
      subst hjN
      have hor : decide ((w.length : Int) < (S.length : Int)) = false ∨ ∃ y, decide ((w.length : Int) < (S.length : Int)) = true ∧ S[w.length]? = some y ∧ isDigit y.toNat = false := by
        by_cases hjl : w.length < S.length
        · have hg := List.getElem?_eq_getElem hjl
          refine .inr ⟨S[w.length], by simp; omega, hg, ?_⟩
          cases hq : isDigit (S[w.length]).toNat with
          | false => rfl
          | true => exact absurd ⟨hjl, by rw [hg]; exact hq⟩ hj'
        · exact .inl (by simp; omega)
      let J : Nat → AEnv → ASt → Prop := fun m e st => ∃ k v : Nat, m = w.length - k ∧ k ≤ w.length ∧ v ≤ 4611686018427387903 ∧ decV v (w.drop k) = decV 0 w ∧ e.get 0 = .str S ∧ e.get 2 = .ptr c 0 ∧ e.get 6 = .int .i64 (w.length : Int) ∧ e.get 7 = .int .i64 (v : Int) ∧ e.get 8 = .int .i64 (k : Int) ∧ st = ⟨H, c + 1, []⟩
      rcases hor with hA | ⟨y, hA, hB, hC⟩
      rotate_left
      simp -dsimp -implicitDefEqProofs only [go_sem, Nat.reduceAdd, Nat.reduceEqDiff, reduceIte, reduceCtorEq, Nat.reduceLeDiff, Nat.reduceLT, Nat.reduceSub, Int.reduceEq, Int.reduceLT, g0, g6, hA, CondV_true, strAt_nat, hB]
      refine DoesK_of (rdigit_call _ _) ?_
      rintro v s' ⟨rfl, rfl⟩
      simp -dsimp -implicitDefEqProofs only [go_sem, Nat.reduceAdd, Nat.reduceEqDiff, reduceIte, reduceCtorEq, Nat.reduceLeDiff, Nat.reduceLT, Nat.reduceSub, Int.reduceEq, Int.reduceLT, hC, CondV_true, CondV_false]
      rotate_left
      simp -dsimp -implicitDefEqProofs only [go_sem, Nat.reduceAdd, Nat.reduceEqDiff, reduceIte, reduceCtorEq, Nat.reduceLeDiff, Nat.reduceLT, Nat.reduceSub, Int.reduceEq, Int.reduceLT, g0, g6, hA, CondV_false]
      all_goals
        refine LoopK_rule J w.length ⟨0, 0, rfl, Nat.zero_le _, Nat.zero_le _, rfl, g0, g2, g6, rfl, rfl, rfl⟩ ?_
        rintro m e st ⟨k, v, rfl, hk, hv, hval, g0, g2, g6, g7, g8, rfl⟩
        simp -dsimp -implicitDefEqProofs only [go_sem, Nat.reduceAdd, Nat.reduceEqDiff, reduceIte, reduceCtorEq, Nat.reduceLeDiff, Nat.reduceLT, Nat.reduceSub, Int.reduceEq, Int.reduceLT, g6, g8]
        refine CondV_split (fun hc => ?_) fun hc => ?_
        · have hk' : k < w.length := by simpa using hc
          have hg := List.getElem?_eq_getElem hk'
          have hdr : w.drop k = w[k] :: w.drop (k + 1) := List.drop_eq_getElem_cons hk'
          have hb := hdig w[k] (List.getElem_mem hk')
          have hval2 : decV (10 * v + (w[k].toNat - 48)) (w.drop (k + 1)) = decV 0 w := by rw [← hval, hdr]; rfl
          have hgs := (hwg k hk').trans hg
          generalize w[k] = u at hg hdr hb hval2 hgs
          obtain ⟨q, hq, hq9⟩ : ∃ q : Nat, q = u.toNat - 48 ∧ q ≤ 9 := ⟨_, rfl, by omega⟩
          rw [← hq] at hval2
          have w1 : IntKind.wrap .u8 ((u.toNat : Int) - 48) = (q : Int) := by rw [wrap_u8 (by omega) (by omega)]; omega
          have w2 : IntKind.wrap .i64 (q : Int) = (q : Int) := wrap_i64 (by omega) (by omega)
          have w3 : IntKind.wrap .i64 (4611686018427387903 - (q : Int)) = ((4611686018427387903 - q : Nat) : Int) := by rw [wrap_i64 (by omega) (by omega)]; omega
          have w4 : IntKind.wrap .i64 ((((4611686018427387903 - q : Nat) : Int)).tdiv 10) = (((4611686018427387903 - q) / 10 : Nat) : Int) := by
            rw [show (10 : Int) = ((10 : Nat) : Int) from rfl, ← Int.ofNat_tdiv, wrap_i64 (by omega) (by omega)]
          simp -dsimp -implicitDefEqProofs only [go_sem, Nat.reduceAdd, Nat.reduceEqDiff, reduceIte, reduceCtorEq, Nat.reduceLeDiff, Nat.reduceLT, Nat.reduceSub, Int.reduceEq, Int.reduceLT, g0, g7, g8, strAt_nat, hgs, w1, w2, w3, w4]
          refine CondV_split (fun hx => ?_) fun hx => ?_
          · have hx' : (4611686018427387903 - q) / 10 < v := by have := hx; simp only [decide_eq_true_eq] at this; omega
            have hbig : ¬ decV 0 w ≤ 4611686018427387903 := by
              have := decV_ge (w.drop (k + 1)) (10 * v + q)
              rw [hval2] at this
              omega
            rw [if_neg hbig]
            simp -dsimp -implicitDefEqProofs only [go_sem, Nat.reduceAdd, Nat.reduceEqDiff, reduceIte, reduceCtorEq, Nat.reduceLeDiff, Nat.reduceLT, Nat.reduceSub, Int.reduceEq, Int.reduceLT, g2, fillV, hc0, zeroT, ldCells]
            exact ⟨_, _, _, 0, _, _, rfl, rfl, hF.upd _ (.inr (Nat.le_refl _)) (Nat.le_refl _), fun e => by simp at e⟩
          · have hx' : ¬ (4611686018427387903 - q) / 10 < v := by have := hx; simp only [decide_eq_false_iff_not] at this; omega
            have w5 : IntKind.wrap .i64 (10 * (v : Int)) = ((10 * v : Nat) : Int) := by rw [wrap_i64 (by omega) (by omega)]; omega
            have w6 : IntKind.wrap .i64 (((10 * v : Nat) : Int) + (q : Int)) = ((10 * v + q : Nat) : Int) := by rw [wrap_i64 (by omega) (by omega)]; omega
            simp -dsimp -implicitDefEqProofs only [go_sem, Nat.reduceAdd, Nat.reduceEqDiff, reduceIte, reduceCtorEq, Nat.reduceLeDiff, Nat.reduceLT, Nat.reduceSub, Int.reduceEq, Int.reduceLT, g7, g8, w5, w6]
            refine Again.of (w.length - (k + 1)) (by omega) ⟨k + 1, 10 * v + q, rfl, by omega, by omega, hval2, g0, g2, g6, rfl, ?_, rfl⟩
            show AV.int .i64 (IntKind.wrap .i64 ((k : Int) + 1)) = _
            rw [wrap_i64 (by omega) (by omega)]; rfl
        · obtain rfl : k = w.length := by simp at hc; omega
          have hv2 : v = decV 0 w := by rw [← hval, List.drop_length]; rfl
          rw [if_pos (by omega)]
          simp -dsimp -implicitDefEqProofs only [go_sem, Nat.reduceAdd, Nat.reduceEqDiff, reduceIte, reduceCtorEq, Nat.reduceLeDiff, Nat.reduceLT, Nat.reduceSub, Int.reduceEq, Int.reduceLT, g2, g6, g7, fillV, hc0, zeroT, ldCells]
          exact ⟨_, _, _, _, _, _, rfl, rfl, hF.upd _ (.inr (Nat.le_refl _)) (Nat.le_refl _), fun e => ⟨rfl, rfl, by rw [hv2], rfl⟩⟩
  · have hd : digitB x = false := hd
    change Aw X _ _ _ _ _ ⟨upd h c (.cells zeroT), _, _⟩
    generalize upd h c (.cells zeroT) = H at hc0 hF ⊢
    simp -dsimp -implicitDefEqProofs only [go_sem, Nat.reduceAdd, Nat.reduceEqDiff, reduceIte, reduceCtorEq, Nat.reduceLeDiff, Nat.reduceLT, Nat.reduceSub, Int.reduceEq, Int.reduceLT]
    refine CondV_split (fun hq => ?_) fun hq => ?_
    · have hx34 : x = 34 := byte_of hq rfl
      have hP : tokP (x :: r) = if (unq (x :: r)).2.2 = 0 then (0, ⟨2, (unq (x :: r)).1, 0⟩, (unq (x :: r)).2.1) else ((unq (x :: r)).2.2, ⟨0, [], 0⟩, 0) := by
        rw [tokP, if_neg (by simp [hd]), if_pos hx34]
      rw [hP]
      simp -dsimp -implicitDefEqProofs only [go_sem, Nat.reduceAdd, Nat.reduceEqDiff, reduceIte, reduceCtorEq, Nat.reduceLeDiff, Nat.reduceLT, Nat.reduceSub, Int.reduceEq, Int.reduceLT]
      refine DoesK_of (runq_call _ hs _ _ _) ?_
      rintro v s' ⟨rfl, h1, c1, rfl, f1⟩
      have hc1 : h1 c = some (.cells zeroT) := (f1.at (Nat.lt_succ_self _) (by simp)).trans hc0
      generalize unq (x :: r) = p
      obtain ⟨p1, p2, p3⟩ := p
      simp -dsimp -implicitDefEqProofs only [go_sem, Nat.reduceAdd, Nat.reduceEqDiff, reduceIte, reduceCtorEq, Nat.reduceLeDiff, Nat.reduceLT, Nat.reduceSub, Int.reduceEq, Int.reduceLT, unqA, fillV, hc1, zeroT, ldCells]
      have hF2 := (hF.trans f1 (by simp)).upd (.cells [.int .i64 2, .str p1, .int .i64 0, .int .i64 0]) (.inr (Nat.le_refl c)) (Nat.le_refl c1)
      by_cases he : p3 = 0
      · rw [if_pos he, he]
        exact ⟨_, _, _, _, _, _, rfl, rfl, hF2, fun e => ⟨rfl, rfl, rfl, rfl⟩⟩
      · rw [if_neg he]
        exact ⟨_, _, _, _, _, _, rfl, rfl, hF2, fun e => absurd e he⟩
    · have hx34 : x ≠ 34 := byte_ne hq rfl
      simp -dsimp -implicitDefEqProofs only [go_sem, Nat.reduceAdd, Nat.reduceEqDiff, reduceIte, reduceCtorEq, Nat.reduceLeDiff, Nat.reduceLT, Nat.reduceSub, Int.reduceEq, Int.reduceLT]
      refine DoesK_of (rsmall_call _ _) ?_
      rintro v s' ⟨rfl, rfl⟩
      have hT : tokP (x :: r) = if (smallB x || largeB x) = true then (if 16 < ((x :: r).takeWhile innerB).length then (12, ⟨0, [], 0⟩, 0) else (0, ⟨nameKind ((x :: r).takeWhile innerB), (x :: r).takeWhile innerB, 0⟩, ((x :: r).takeWhile innerB).length))
          else if signB x = true then (if (x :: r).take 2 = [45, 62] then (0, ⟨5, (x :: r).take 2, 0⟩, 2) else (0, ⟨5, (x :: r).take 1, 0⟩, 1)) else (10, ⟨0, [], 0⟩, 0) := by
        rw [tokP, if_neg (by simp [hd]), if_neg hx34]
      rw [hT]
      have hor : (smallB x || largeB x) = false ∨ (smallB x || largeB x) = true := by cases (smallB x || largeB x) <;> simp
      rcases hor with hn | hn
      · rw [if_neg (by simp [hn])]
        rw [Bool.or_eq_false_iff] at hn
        have hsm : isSmall (x.toNat : Int) = false := hn.1
        have hlg : isLarge (x.toNat : Int) = false := hn.2
        simp -dsimp -implicitDefEqProofs only [go_sem, Nat.reduceAdd, Nat.reduceEqDiff, reduceIte, reduceCtorEq, Nat.reduceLeDiff, Nat.reduceLT, Nat.reduceSub, Int.reduceEq, Int.reduceLT, hsm, CondV_true]
        refine DoesK_of (rlarge_call _ _) ?_
        rintro v s' ⟨rfl, rfl⟩
        have q45 := byte_dec x 45 45 rfl
        by_cases harr : ∃ r', x = 45 ∧ r = 62 :: r'
        · obtain ⟨r', rfl, rfl⟩ := harr
          have hs1 : strAt (.int .i64 1) (.str (45 :: 62 :: r')) = some (.int .u8 62) := rfl
          have hl : decide ((((62 :: r').length + 1 : Nat) : Int) > 1) = true := by simp; omega
          have hl' : decide (((r'.length + 1 + 1 : Nat) : Int) > 1) = true := by simp; omega
          have hsg : signB 45 = true := rfl
          simp -dsimp -implicitDefEqProofs only [go_sem, Nat.reduceAdd, Nat.reduceEqDiff, reduceIte, reduceCtorEq, Nat.reduceLeDiff, Nat.reduceLT, Nat.reduceSub, Int.reduceEq, Int.reduceLT, hsm, hlg, CondV_false, q45, CondV_true, hs1, hl, hl', fillV, hc0, zeroT, ldCells]
          rw [if_pos hsg]
          exact ⟨_, _, _, 2, _, _, rfl, rfl, hF.upd _ (.inr (Nat.le_refl _)) (Nat.le_refl _), fun e => ⟨rfl, rfl, rfl, rfl⟩⟩
        · have hn2 : ¬ (x :: r).take 2 = [45, 62] := by
            intro e0
            cases r with
            | nil => simp at e0
            | cons y r' => simp at e0; exact harr ⟨r', e0.1, by rw [e0.2]⟩
          rw [if_neg hn2]
          have hor : decide (x = 45) = false ∨ (decide (x = 45) = true ∧ decide (((r.length + 1 : Nat) : Int) > 1) = false) ∨ ∃ y r', decide (x = 45) = true ∧ r = y :: r' ∧ decide ((y.toNat : Int) = 62) = false := by
            by_cases h45 : x = 45
            · cases r with
              | nil => exact .inr (.inl ⟨by simpa using h45, rfl⟩)
              | cons y r' =>
                refine .inr (.inr ⟨y, r', by simpa using h45, rfl, ?_⟩)
                rw [byte_dec y 62 62 rfl, decide_eq_false]
                intro e0; exact harr ⟨r', h45, by rw [e0]⟩
            · exact .inl (by simpa using h45)
          rcases hor with hA | ⟨hA, hB⟩ | ⟨y, r', hA, rfl, hC⟩
          simp -dsimp -implicitDefEqProofs only [go_sem, Nat.reduceAdd, Nat.reduceEqDiff, reduceIte, reduceCtorEq, Nat.reduceLeDiff, Nat.reduceLT, Nat.reduceSub, Int.reduceEq, Int.reduceLT, hsm, hlg, CondV_false, q45, hA]
          rotate_left
          simp -dsimp -implicitDefEqProofs only [go_sem, Nat.reduceAdd, Nat.reduceEqDiff, reduceIte, reduceCtorEq, Nat.reduceLeDiff, Nat.reduceLT, Nat.reduceSub, Int.reduceEq, Int.reduceLT, hsm, hlg, CondV_false, CondV_true, q45, hA, hB]
          rotate_left
          have hs1 : strAt (.int .i64 1) (.str (x :: y :: r')) = some (.int .u8 y.toNat) := rfl
          have hl' : decide (((r'.length + 1 + 1 : Nat) : Int) > 1) = true := by simp; omega
          simp -dsimp -implicitDefEqProofs only [go_sem, Nat.reduceAdd, Nat.reduceEqDiff, reduceIte, reduceCtorEq, Nat.reduceLeDiff, Nat.reduceLT, Nat.reduceSub, Int.reduceEq, Int.reduceLT, hsm, hlg, CondV_false, CondV_true, q45, hA, hC, hl', hs1]
          all_goals
            refine DoesK_of (rsign_call _ _) ?_
            rintro v s' ⟨rfl, rfl⟩
            simp -dsimp -implicitDefEqProofs only [go_sem, Nat.reduceAdd, Nat.reduceEqDiff, reduceIte, reduceCtorEq, Nat.reduceLeDiff, Nat.reduceLT, Nat.reduceSub, Int.reduceEq, Int.reduceLT]
            refine CondV_split (fun hsg => ?_) fun hsg => ?_
            · rw [if_pos hsg]
              have hcut : ∀ l : List UInt8, cutStr none (some (.int .i64 1)) (.str (x :: l)) = some (.str [x]) := by
                intro l; simp [cutStr, boundsA, natOf]
              simp -dsimp -implicitDefEqProofs only [go_sem, Nat.reduceAdd, Nat.reduceEqDiff, reduceIte, reduceCtorEq, Nat.reduceLeDiff, Nat.reduceLT, Nat.reduceSub, Int.reduceEq, Int.reduceLT, hcut, fillV, hc0, zeroT, ldCells]
              exact ⟨_, _, _, 1, _, _, rfl, rfl, hF.upd _ (.inr (Nat.le_refl _)) (Nat.le_refl _), fun e => ⟨rfl, rfl, rfl, rfl⟩⟩
            · rw [if_neg (by simp [hsg])]
              simp -dsimp -implicitDefEqProofs only [go_sem, Nat.reduceAdd, Nat.reduceEqDiff, reduceIte, reduceCtorEq, Nat.reduceLeDiff, Nat.reduceLT, Nat.reduceSub, Int.reduceEq, Int.reduceLT, fillV, hc0, zeroT, ldCells]
              exact ⟨_, _, _, 0, _, _, rfl, rfl, hF.upd _ (.inr (Nat.le_refl _)) (Nat.le_refl _), fun e => by simp at e⟩
      · rw [if_pos hn]
        have hin : innerB x = true := by
          simp only [innerB, isInner, smallB, largeB, Bool.or_eq_true] at hn ⊢
          exact hn.elim .inl fun h => .inr (.inl h)
        have hw1 : 1 ≤ ((x :: r).takeWhile innerB).length := by rw [List.takeWhile_cons, if_pos hin]; simp
        have htk := spanN_take innerB (x :: r)
        have hsp1 : 1 + spanN innerB ((x :: r).drop 1) = ((x :: r).takeWhile innerB).length := by
          have := spanN_cons innerB x r
          rw [if_pos hin] at this
          exact this.symm
        have hwle := takeWhile_len innerB (x :: r)
        rw [spanN] at htk
        have hkind : nameKind ((x :: r).takeWhile innerB) = if isLarge x.toNat then 4 else if keyP ((x :: r).takeWhile innerB) then 6 else 3 := by
          rw [List.takeWhile_cons, if_pos hin]; rfl
        have hs0' := hs0
        have hor : isSmall (x.toNat : Int) = true ∨ (isSmall (x.toNat : Int) = false ∧ isLarge (x.toNat : Int) = true) := by
          simp only [smallB, largeB, Bool.or_eq_true] at hn
          cases hsm : isSmall (x.toNat : Int) with
          | true => exact .inl rfl
          | false => exact .inr ⟨rfl, by simpa [hsm] using hn⟩
        generalize hS : x :: r = S at *
        generalize hw : S.takeWhile innerB = w at *
        have hS1 : 1 ≤ S.length := by rw [← hS]; simp
        rcases hor with hsm | ⟨hsm, hlg⟩
        simp -dsimp -implicitDefEqProofs only [go_sem, Nat.reduceAdd, Nat.reduceEqDiff, reduceIte, reduceCtorEq, Nat.reduceLeDiff, Nat.reduceLT, Nat.reduceSub, Int.reduceEq, Int.reduceLT, hsm, CondV_true, CondV_false]
        rotate_left
        simp -dsimp -implicitDefEqProofs only [go_sem, Nat.reduceAdd, Nat.reduceEqDiff, reduceIte, reduceCtorEq, Nat.reduceLeDiff, Nat.reduceLT, Nat.reduceSub, Int.reduceEq, Int.reduceLT, hsm, CondV_true]
        refine DoesK_of (rlarge_call _ _) ?_
        rintro v s' ⟨rfl, rfl⟩
        simp -dsimp -implicitDefEqProofs only [go_sem, Nat.reduceAdd, Nat.reduceEqDiff, reduceIte, reduceCtorEq, Nat.reduceLeDiff, Nat.reduceLT, Nat.reduceSub, Int.reduceEq, Int.reduceLT, hsm, hlg, CondV_true]
        all_goals
          let I : Nat → AEnv → ASt → Prop := fun m e st => ∃ j : Nat, m = S.length - j ∧ 1 ≤ j ∧ j ≤ S.length ∧ j + spanN innerB (S.drop j) = w.length ∧ e.get 0 = .str S ∧ e.get 2 = .ptr c 0 ∧ e.get 5 = .int .u8 x.toNat ∧ e.get 6 = .int .i64 (j : Int) ∧ st = ⟨H, c + 1, []⟩
          refine LoopK_rule I (S.length - 1) ⟨1, rfl, Nat.le_refl _, hS1, hsp1, rfl, rfl, rfl, rfl, rfl⟩ ?_
          rintro m e st ⟨j, rfl, hj1, hj, hjs, g0, g2, g5, g6, rfl⟩
          have again : ∀ e' : AEnv, j < S.length → innerB (S[j]?.getD 0) = true → e'.get 0 = .str S → e'.get 2 = .ptr c 0 → e'.get 5 = .int .u8 x.toNat → e'.get 6 = .int .i64 (IntKind.wrap .i64 ((j : Int) + 1)) → Again I .mk (S.length - j) e' ⟨H, c + 1, []⟩ := by
            intro e' hjl hin' a0 a2 a5 a6
            have hdr : S.drop j = S[j] :: S.drop (j + 1) := List.drop_eq_getElem_cons hjl
            rw [List.getElem?_eq_getElem hjl, Option.getD_some] at hin'
            refine Again.of (S.length - (j + 1)) (by omega) ⟨j + 1, rfl, by omega, hjl, ?_, a0, a2, a5, ?_, rfl⟩
            · rw [← hjs, hdr, spanN_cons, if_pos hin']; omega
            · rw [a6, wrap_i64 (by omega) (by omega)]; rfl
          have ends : ¬ (j < S.length ∧ innerB (S[j]?.getD 0) = true) → j = w.length := by
            intro hj'
            rcases Nat.lt_or_ge j S.length with hjl | hjl
            · have hg := List.getElem?_eq_getElem hjl
              have hdr : S.drop j = S[j] :: S.drop (j + 1) := List.drop_eq_getElem_cons hjl
              rw [← hjs, hdr, spanN_cons, if_neg]
              · rfl
              · intro h1; exact hj' ⟨hjl, by rw [hg]; exact h1⟩
            · rw [← hjs, List.drop_eq_nil_of_le hjl]; rfl
          cases hlt : decide ((j : Int) < (S.length : Int)) with
          | false =>
            have hjN := ends (by simp at hlt; omega)
            clear again ends
            simp -dsimp -implicitDefEqProofs only [go_sem, Nat.reduceAdd, Nat.reduceEqDiff, reduceIte, reduceCtorEq, Nat.reduceLeDiff, Nat.reduceLT, Nat.reduceSub, Int.reduceEq, Int.reduceLT, g0, g6, hlt, CondV_false]
            subst hjN
            refine CondV_split (fun h16 => ?_) fun h16 => ?_
            · have h16' : 16 < w.length := by simp at h16; omega
              rw [if_pos h16']
              simp -dsimp -implicitDefEqProofs only [go_sem, Nat.reduceAdd, Nat.reduceEqDiff, reduceIte, reduceCtorEq, Nat.reduceLeDiff, Nat.reduceLT, Nat.reduceSub, Int.reduceEq, Int.reduceLT, g2, fillV, hc0, zeroT, ldCells]
              exact ⟨_, _, _, 0, _, _, rfl, rfl, hF.upd _ (.inr (Nat.le_refl _)) (Nat.le_refl _), fun e => by simp at e⟩
            · have h16' : ¬ 16 < w.length := by simp at h16; omega
              rw [if_neg h16', hkind]
              have u1 : ∀ h o, upd h (c + 1) o c = h c := fun h o => upd_ne h o (by omega)
              simp -dsimp -implicitDefEqProofs only [go_sem, Nat.reduceAdd, Nat.reduceEqDiff, reduceIte, reduceCtorEq, Nat.reduceLeDiff, Nat.reduceLT, Nat.reduceSub, Int.reduceEq, Int.reduceLT, preH, g0, g2, g5, g6, hwle, htk, fillV, OpK_alloc]
              refine DoesK_of (rlarge_call _ _) ?_
              rintro v s' ⟨rfl, rfl⟩
              simp -dsimp -implicitDefEqProofs only [go_sem, Nat.reduceAdd, Nat.reduceEqDiff, reduceIte, reduceCtorEq, Nat.reduceLeDiff, Nat.reduceLT, Nat.reduceSub, Int.reduceEq, Int.reduceLT]
              refine CondV_split (fun hl => ?_) fun hl => ?_
              · rw [if_pos hl]
                simp -dsimp -implicitDefEqProofs only [go_sem, Nat.reduceAdd, Nat.reduceEqDiff, reduceIte, reduceCtorEq, Nat.reduceLeDiff, Nat.reduceLT, Nat.reduceSub, Int.reduceEq, Int.reduceLT, g2, g6, u1, hc0, zeroT, ldCells]
                exact ⟨_, _, _, _, _, _, rfl, rfl, (hF.upd _ (.inr (Nat.le_succ _)) (Nat.le_succ _)).upd _ (.inr (Nat.le_refl _)) (Nat.le_refl _), fun e => ⟨rfl, rfl, rfl, rfl⟩⟩
              · rw [if_neg (by simp [hl])]
                simp -dsimp -implicitDefEqProofs only [go_sem, Nat.reduceAdd, Nat.reduceEqDiff, reduceIte, reduceCtorEq, Nat.reduceLeDiff, Nat.reduceLT, Nat.reduceSub, Int.reduceEq, Int.reduceLT, g0, g6, hwle, htk]
                refine DoesK_of (rkey_call _ _) ?_
                rintro v s' ⟨rfl, rfl⟩
                simp -dsimp -implicitDefEqProofs only [go_sem, Nat.reduceAdd, Nat.reduceEqDiff, reduceIte, reduceCtorEq, Nat.reduceLeDiff, Nat.reduceLT, Nat.reduceSub, Int.reduceEq, Int.reduceLT]
                refine CondV_split (fun hk => ?_) fun hk => ?_
                · rw [if_pos hk]
                  simp -dsimp -implicitDefEqProofs only [go_sem, Nat.reduceAdd, Nat.reduceEqDiff, reduceIte, reduceCtorEq, Nat.reduceLeDiff, Nat.reduceLT, Nat.reduceSub, Int.reduceEq, Int.reduceLT, g2, g6, u1, hc0, zeroT, ldCells]
                  exact ⟨_, _, _, _, _, _, rfl, rfl, (hF.upd _ (.inr (Nat.le_succ _)) (Nat.le_succ _)).upd _ (.inr (Nat.le_refl _)) (Nat.le_refl _), fun e => ⟨rfl, rfl, rfl, rfl⟩⟩
                · rw [if_neg (by simp [hk])]
                  simp -dsimp -implicitDefEqProofs only [go_sem, Nat.reduceAdd, Nat.reduceEqDiff, reduceIte, reduceCtorEq, Nat.reduceLeDiff, Nat.reduceLT, Nat.reduceSub, Int.reduceEq, Int.reduceLT, g2, g6, u1, hc0, zeroT, ldCells]
                  exact ⟨_, _, _, _, _, _, rfl, rfl, (hF.upd _ (.inr (Nat.le_succ _)) (Nat.le_succ _)).upd _ (.inr (Nat.le_refl _)) (Nat.le_refl _), fun e => ⟨rfl, rfl, rfl, rfl⟩⟩
          | true =>
            have hjl : j < S.length := by simpa using hlt
            obtain ⟨y, hg⟩ : ∃ y, S[j]? = some y := ⟨_, List.getElem?_eq_getElem hjl⟩
            rw [hg, Option.getD_some] at again ends
            simp -dsimp -implicitDefEqProofs only [go_sem, Nat.reduceAdd, Nat.reduceEqDiff, reduceIte, reduceCtorEq, Nat.reduceLeDiff, Nat.reduceLT, Nat.reduceSub, Int.reduceEq, Int.reduceLT, g0, g6, hlt, CondV_true, strAt_nat, hg]
            have q95 := byte_dec y 95 95 rfl
            refine DoesK_of (rsmall_call _ _) ?_
            rintro v s' ⟨rfl, rfl⟩
            cases h1 : isSmall (y.toNat : Int) with
            | true =>
              simp -dsimp -implicitDefEqProofs only [go_sem, Nat.reduceAdd, Nat.reduceEqDiff, reduceIte, reduceCtorEq, Nat.reduceLeDiff, Nat.reduceLT, Nat.reduceSub, Int.reduceEq, Int.reduceLT, CondV_true, CondV_false, g6]
              exact again _ hjl (by simp [innerB, isInner, h1]) g0 g2 g5 rfl
            | false =>
              simp -dsimp -implicitDefEqProofs only [go_sem, Nat.reduceAdd, Nat.reduceEqDiff, reduceIte, reduceCtorEq, Nat.reduceLeDiff, Nat.reduceLT, Nat.reduceSub, Int.reduceEq, Int.reduceLT, CondV_true, CondV_false, g0, g6, strAt_nat, hg]
              refine DoesK_of (rlarge_call _ _) ?_
              rintro v s' ⟨rfl, rfl⟩
              cases h2 : isLarge (y.toNat : Int) with
              | true =>
                simp -dsimp -implicitDefEqProofs only [go_sem, Nat.reduceAdd, Nat.reduceEqDiff, reduceIte, reduceCtorEq, Nat.reduceLeDiff, Nat.reduceLT, Nat.reduceSub, Int.reduceEq, Int.reduceLT, CondV_true, CondV_false, g6]
                exact again _ hjl (by simp [innerB, isInner, h1, h2]) g0 g2 g5 rfl
              | false =>
                simp -dsimp -implicitDefEqProofs only [go_sem, Nat.reduceAdd, Nat.reduceEqDiff, reduceIte, reduceCtorEq, Nat.reduceLeDiff, Nat.reduceLT, Nat.reduceSub, Int.reduceEq, Int.reduceLT, CondV_true, CondV_false, g0, g6, strAt_nat, hg]
                refine DoesK_of (rdigit_call _ _) ?_
                rintro v s' ⟨rfl, rfl⟩
                cases h3 : isDigit (y.toNat : Int) with
                | true =>
                  simp -dsimp -implicitDefEqProofs only [go_sem, Nat.reduceAdd, Nat.reduceEqDiff, reduceIte, reduceCtorEq, Nat.reduceLeDiff, Nat.reduceLT, Nat.reduceSub, Int.reduceEq, Int.reduceLT, CondV_true, CondV_false, g6]
                  exact again _ hjl (by simp [innerB, isInner, h1, h2, h3]) g0 g2 g5 rfl
                | false =>
                  simp -dsimp -implicitDefEqProofs only [go_sem, Nat.reduceAdd, Nat.reduceEqDiff, reduceIte, reduceCtorEq, Nat.reduceLeDiff, Nat.reduceLT, Nat.reduceSub, Int.reduceEq, Int.reduceLT, CondV_true, CondV_false, g0, g6, strAt_nat, hg]
                  refine CondV_split (fun h4 => ?_) fun h4 => ?_
                  · simp -dsimp -implicitDefEqProofs only [go_sem, Nat.reduceAdd, Nat.reduceEqDiff, reduceIte, reduceCtorEq, Nat.reduceLeDiff, Nat.reduceLT, Nat.reduceSub, Int.reduceEq, Int.reduceLT, g6]
                    exact again _ hjl (by simp only [innerB, isInner, h1, h2, h3, Bool.false_or]; exact h4) g0 g2 g5 rfl
                  · have hjN := ends (by simp only [innerB, isInner, h1, h2, h3, Bool.false_or]; rw [h4]; simp)
                    clear again ends
                    simp -dsimp -implicitDefEqProofs only [go_sem, Nat.reduceAdd, Nat.reduceEqDiff, reduceIte, reduceCtorEq, Nat.reduceLeDiff, Nat.reduceLT, Nat.reduceSub, Int.reduceEq, Int.reduceLT, g6]
                    subst hjN
                    refine CondV_split (fun h16 => ?_) fun h16 => ?_
                    · have h16' : 16 < w.length := by simp at h16; omega
                      rw [if_pos h16']
                      simp -dsimp -implicitDefEqProofs only [go_sem, Nat.reduceAdd, Nat.reduceEqDiff, reduceIte, reduceCtorEq, Nat.reduceLeDiff, Nat.reduceLT, Nat.reduceSub, Int.reduceEq, Int.reduceLT, g2, fillV, hc0, zeroT, ldCells]
                      exact ⟨_, _, _, 0, _, _, rfl, rfl, hF.upd _ (.inr (Nat.le_refl _)) (Nat.le_refl _), fun e => by simp at e⟩
                    · have h16' : ¬ 16 < w.length := by simp at h16; omega
                      rw [if_neg h16', hkind]
                      have u1 : ∀ h o, upd h (c + 1) o c = h c := fun h o => upd_ne h o (by omega)
                      simp -dsimp -implicitDefEqProofs only [go_sem, Nat.reduceAdd, Nat.reduceEqDiff, reduceIte, reduceCtorEq, Nat.reduceLeDiff, Nat.reduceLT, Nat.reduceSub, Int.reduceEq, Int.reduceLT, preH, g0, g2, g5, g6, hwle, htk, fillV, OpK_alloc]
                      refine DoesK_of (rlarge_call _ _) ?_
                      rintro v s' ⟨rfl, rfl⟩
                      simp -dsimp -implicitDefEqProofs only [go_sem, Nat.reduceAdd, Nat.reduceEqDiff, reduceIte, reduceCtorEq, Nat.reduceLeDiff, Nat.reduceLT, Nat.reduceSub, Int.reduceEq, Int.reduceLT]
                      refine CondV_split (fun hl => ?_) fun hl => ?_
                      · rw [if_pos hl]
                        simp -dsimp -implicitDefEqProofs only [go_sem, Nat.reduceAdd, Nat.reduceEqDiff, reduceIte, reduceCtorEq, Nat.reduceLeDiff, Nat.reduceLT, Nat.reduceSub, Int.reduceEq, Int.reduceLT, g2, g6, u1, hc0, zeroT, ldCells]
                        exact ⟨_, _, _, _, _, _, rfl, rfl, (hF.upd _ (.inr (Nat.le_succ _)) (Nat.le_succ _)).upd _ (.inr (Nat.le_refl _)) (Nat.le_refl _), fun e => ⟨rfl, rfl, rfl, rfl⟩⟩
                      · rw [if_neg (by simp [hl])]
                        simp -dsimp -implicitDefEqProofs only [go_sem, Nat.reduceAdd, Nat.reduceEqDiff, reduceIte, reduceCtorEq, Nat.reduceLeDiff, Nat.reduceLT, Nat.reduceSub, Int.reduceEq, Int.reduceLT, g0, g6, hwle, htk]
                        refine DoesK_of (rkey_call _ _) ?_
                        rintro v s' ⟨rfl, rfl⟩
                        simp -dsimp -implicitDefEqProofs only [go_sem, Nat.reduceAdd, Nat.reduceEqDiff, reduceIte, reduceCtorEq, Nat.reduceLeDiff, Nat.reduceLT, Nat.reduceSub, Int.reduceEq, Int.reduceLT]
                        refine CondV_split (fun hk => ?_) fun hk => ?_
                        · rw [if_pos hk]
                          simp -dsimp -implicitDefEqProofs only [go_sem, Nat.reduceAdd, Nat.reduceEqDiff, reduceIte, reduceCtorEq, Nat.reduceLeDiff, Nat.reduceLT, Nat.reduceSub, Int.reduceEq, Int.reduceLT, g2, g6, u1, hc0, zeroT, ldCells]
                          exact ⟨_, _, _, _, _, _, rfl, rfl, (hF.upd _ (.inr (Nat.le_succ _)) (Nat.le_succ _)).upd _ (.inr (Nat.le_refl _)) (Nat.le_refl _), fun e => ⟨rfl, rfl, rfl, rfl⟩⟩
                        · rw [if_neg (by simp [hk])]
                          simp -dsimp -implicitDefEqProofs only [go_sem, Nat.reduceAdd, Nat.reduceEqDiff, reduceIte, reduceCtorEq, Nat.reduceLeDiff, Nat.reduceLT, Nat.reduceSub, Int.reduceEq, Int.reduceLT, g2, g6, u1, hc0, zeroT, ldCells]
                          exact ⟨_, _, _, _, _, _, rfl, rfl, (hF.upd _ (.inr (Nat.le_succ _)) (Nat.le_succ _)).upd _ (.inr (Nat.le_refl _)) (Nat.le_refl _), fun e => ⟨rfl, rfl, rfl, rfl⟩⟩

end Go.Proofs.YtggdpckdlcngpaaDoor
