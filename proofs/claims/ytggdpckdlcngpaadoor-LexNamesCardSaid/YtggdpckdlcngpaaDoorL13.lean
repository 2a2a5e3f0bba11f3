/- Texts are read. -/
import Derived.Test.YtggdpckdlcngpaaDoorL12
set_option linter.unusedVariables false
set_option linter.unusedSimpArgs false
namespace Go.Proofs.YtggdpckdlcngpaaDoor
open Abs Go.RowKit

/-- A text behind its first sign: the text, how many bytes it takes, an error. -/
def unqK : List UInt8 → Nat → List UInt8 → Nat → List UInt8 × Nat × Int
  | [], _, _, _ => ([], 0, 11)
  | _ :: r, k + 1, acc, a => unqK r k acc a
  | c :: r, 0, acc, a => if c = 10 then ([], 0, 11) else if c = 34 then (if 60 < acc.length then ([], 0, 12) else (acc, a + 1, 0)) else
    if c = 92 then (if (escP r).1 ≠ 0 then ([], 0, (escP r).1) else unqK r (escP r).2.2 (acc ++ [(escP r).2.1]) (a + 1 + (escP r).2.2)) else
    if plainB c = false then ([], 0, 10) else unqK r 0 (acc ++ [c]) (a + 1)

theorem unqK_drop : ∀ (r : List UInt8) (n : Nat) (acc : List UInt8) (a : Nat), unqK r n acc a = unqK (r.drop n) 0 acc a
  | [], n, acc, a => by simp [unqK]
  | c :: r, 0, acc, a => rfl
  | c :: r, n + 1, acc, a => by rw [unqK, unqK_drop r n, List.drop_succ_cons]

def unq : List UInt8 → List UInt8 × Nat × Int
  | [] => ([], 0, 14)
  | c :: r => if c ≠ 34 then ([], 0, 14) else unqK r 0 [] 1

def unqA (p : List UInt8 × Nat × Int) : AV := .tuple [.str p.1, .int .i64 (p.2.1 : Int), .int .i64 p.2.2]

theorem hexStep_ok : ∀ (k n : Nat) (r : List UInt8), (hexStep k n r).1 = 0 → k ≤ r.length ∧ (hexStep k n r).2.2 = 3
  | 0, n, r, _ => ⟨Nat.zero_le _, rfl⟩
  | k + 1, n, [], h => by simp [hexStep] at h
  | k + 1, n, a :: r, h => by
    rw [hexStep] at h ⊢
    cases hx : hexV a with
    | none => rw [hx] at h; simp at h
    | some y =>
      rw [hx] at h
      obtain ⟨h1, h2⟩ := hexStep_ok k _ r h
      exact ⟨by simp; omega, h2⟩
theorem escP_ok (r : List UInt8) (h : (escP r).1 = 0) : 1 ≤ (escP r).2.2 ∧ (escP r).2.2 ≤ r.length := by
  cases r with
  | nil => simp [escP] at h
  | cons c r =>
    simp only [escP] at h ⊢
    split
    · simp
    · split
      · simp
      · split
        · simp
        · split
          · rename_i h1 h2 h3 h4
            rw [if_neg h1, if_neg h2, if_neg h3, if_pos h4] at h
            simp at h
          · rename_i h1 h2 h3 h4
            rw [if_neg h1, if_neg h2, if_neg h3, if_neg h4] at h
            obtain ⟨h5, h6⟩ := hexStep_ok _ _ _ h
            rw [h6]; simp; omega

theorem unq_call (s : List UInt8) (hs : s.length < 4294967281) (h : Hp) (c : Nat) (d : List (Nat × List AV)) : Does X 41 [.str s] ⟨h, c, d⟩ fun v s' => v = unqA (unq s) ∧ ∃ h' c', s' = ⟨h', c', d⟩ ∧ Fr h c h' c' [] := by
  refine call_aw b41 rfl rfl rfl ?_; delta b41
  cases s with
  | nil =>
    simp -dsimp -implicitDefEqProofs only [go_sem, Nat.reduceAdd, Nat.reduceEqDiff, reduceIte, reduceCtorEq, Nat.reduceLeDiff, Nat.reduceLT, Nat.reduceSub, Int.reduceEq, Int.reduceLT]
    exact ⟨rfl, _, _, rfl, Fr.refl _ _ _⟩
  | cons x r =>
    have e0 : decide ((x :: r) = []) = false := by simp
    have hs0 : strAt (.int .i64 0) (.str (x :: r)) = some (.int .u8 x.toNat) := rfl
    simp -dsimp -implicitDefEqProofs only [go_sem, Nat.reduceAdd, Nat.reduceEqDiff, reduceIte, reduceCtorEq, Nat.reduceLeDiff, Nat.reduceLT, Nat.reduceSub, Int.reduceEq, Int.reduceLT, e0, hs0]
    refine CondV_split (fun hq => ?_) fun hq => ?_
    · have hx : x ≠ 34 := by intro e; subst e; simp at hq
      simp -dsimp -implicitDefEqProofs only [go_sem, Nat.reduceAdd, Nat.reduceEqDiff, reduceIte, reduceCtorEq, Nat.reduceLeDiff, Nat.reduceLT, Nat.reduceSub, Int.reduceEq, Int.reduceLT]
      simp only [unq, if_pos hx]
      exact ⟨rfl, _, _, rfl, Fr.refl _ _ _⟩
    · have hx : x = 34 := byte_of (n := 34) (by simpa using hq) rfl
      simp -dsimp -implicitDefEqProofs only [go_sem, Nat.reduceAdd, Nat.reduceEqDiff, reduceIte, reduceCtorEq, Nat.reduceLeDiff, Nat.reduceLT, Nat.reduceSub, Int.reduceEq, Int.reduceLT]
      have hU : unq (x :: r) = unqK ((x :: r).drop 1) 0 [] 1 := by rw [unq, if_neg (by simp [hx])]; rfl
      rw [hU]
      generalize hS : x :: r = S at hs ⊢
      have hS1 : 1 ≤ S.length := by rw [← hS]; simp
      let I : Nat → AEnv → ASt → Prop := fun m e st => ∃ (j : Nat) (acc : List UInt8) (i : Option Nat) (H : Hp) (C : Nat), m = S.length - j ∧ 1 ≤ j ∧ j ≤ S.length ∧ acc.length ≤ j ∧ unqK (S.drop j) 0 acc j = unqK (S.drop 1) 0 [] 1 ∧ Fr h c H C [] ∧ OwnH H 1 i (acc.map byteV) ∧ (∀ k, i = some k → c ≤ k ∧ k < C) ∧
        e.get 0 = .str S ∧ e.get 5 = ownV i (acc.map byteV) ∧ e.get 6 = .int .i64 (j : Int) ∧ st = ⟨H, C, []⟩
      refine LoopK_rule I (S.length - 1) ⟨1, [], none, h, c, rfl, Nat.le_refl _, hS1, by simp, rfl, Fr.refl _ _ _, rfl, by simp, rfl, rfl, rfl, rfl⟩ ?_
      rintro m e st ⟨j, acc, i, H, C, rfl, hj1, hj, hacc, hst, hfr, how, hi, g0, g5, g6, rfl⟩
      by_cases hj' : j < S.length
      · have hge : decide ((j : Int) ≥ (S.length : Int)) = false := by simp; omega
        have hg := List.getElem?_eq_getElem hj'
        have hdr : S.drop j = S[j] :: S.drop (j + 1) := List.drop_eq_getElem_cons hj'
        generalize S[j] = y at hg hdr
        rw [hdr] at hst
        have hjj : j + 1 ≤ S.length := hj'
        have w1 : IntKind.wrap .i64 ((j : Int) + 1) = ((j + 1 : Nat) : Int) := by rw [wrap_i64 (by omega) (by omega)]; omega
        have happ : ∀ (z : UInt8) (H' : Hp) (C' : Nat), Fr H C H' C' [] → appK C' 0 1 1 ⟨H', C' + 1, []⟩ (ownV i (acc.map byteV)) (.slice .full [.int .u8 z.toNat]) = some (ownV (some (i.getD C')) ((acc ++ [z]).map byteV), ⟨upd H' (i.getD C') (.arr (acc.length + 1) 1), C' + 1, []⟩) := by
          intro z H' C' hf
          have := @appK_one C' 0 1 1 H' (C' + 1) [] i (acc.map byteV) (byteV z) .full (how.keep fun k hk => hf.at (hi k hk).2 (by simp)) rfl (by simp; omega)
          simp only [List.length_map, Nat.add_zero] at this
          rw [List.map_append]
          exact this
        have next : ∀ (z : UInt8) (n : Nat) (H' : Hp) (C' : Nat) (e' : AEnv), Fr H C H' C' [] → 1 ≤ n → j + n ≤ S.length → unqK (S.drop (j + n)) 0 (acc ++ [z]) (j + n) = unqK (S.drop 1) 0 [] 1 → e'.get 0 = .str S → e'.get 5 = ownV (some (i.getD C')) ((acc ++ [z]).map byteV) → e'.get 6 = .int .i64 ((j + n : Nat) : Int) →
            Again I .mk (S.length - j) e' ⟨upd H' (i.getD C') (.arr (acc.length + 1) 1), C' + 1, []⟩ := by
          intro z n H' C' e' hf hn hjn hu q0 q5 q6
          have hci : c ≤ i.getD C' ∧ i.getD C' < C' + 1 := by
            cases hi' : i with
            | none => have := hfr.le; have := hf.le; exact ⟨by simp; omega, by simp⟩
            | some k => have := hi k hi'; have := hf.le; simp; omega
          refine Again.of (S.length - (j + n)) (by omega) ⟨j + n, acc ++ [z], some (i.getD C'), _, _, rfl, by omega, hjn, by simp; omega, hu, (hfr.trans hf (by simp)).upd _ (.inr hci.1) (Nat.le_succ _), ?_, ?_, q0, q5, q6, rfl⟩
          · simp [OwnH, upd_same]
          · rintro k hk; injection hk with hk; subst hk; exact hci
        simp -dsimp -implicitDefEqProofs only [go_sem, Nat.reduceAdd, Nat.reduceEqDiff, reduceIte, reduceCtorEq, Nat.reduceLeDiff, Nat.reduceLT, Nat.reduceSub, Int.reduceEq, Int.reduceLT, g0, g5, g6, strAt_nat, hg, hge]
        refine CondV_split (fun h10 => ?_) fun h10 => ?_
        · have hy : y = 10 := byte_of h10 rfl
          simp -dsimp -implicitDefEqProofs only [go_sem, Nat.reduceAdd, Nat.reduceEqDiff, reduceIte, reduceCtorEq, Nat.reduceLeDiff, Nat.reduceLT, Nat.reduceSub, Int.reduceEq, Int.reduceLT]
          rw [← hst, hy]
          exact ⟨rfl, _, _, rfl, hfr⟩
        · have hy10 : y ≠ 10 := byte_ne h10 rfl
          rw [unqK, if_neg hy10] at hst
          simp -dsimp -implicitDefEqProofs only [go_sem, Nat.reduceAdd, Nat.reduceEqDiff, reduceIte, reduceCtorEq, Nat.reduceLeDiff, Nat.reduceLT, Nat.reduceSub, Int.reduceEq, Int.reduceLT, g0, g5, g6, strAt_nat, hg, hge]
          refine CondV_split (fun h34 => ?_) fun h34 => ?_
          · have hy : y = 34 := byte_of h34 rfl
            rw [if_pos hy] at hst
            simp -dsimp -implicitDefEqProofs only [go_sem, Nat.reduceAdd, Nat.reduceEqDiff, reduceIte, reduceCtorEq, Nat.reduceLeDiff, Nat.reduceLT, Nat.reduceSub, Int.reduceEq, Int.reduceLT, g0, g5, g6, strAt_nat, hg, hge, len_own i _ how, List.length_map]
            refine CondV_split (fun hl => ?_) fun hl => ?_
            · have hl' : 60 < acc.length := by simp at hl; omega
              rw [if_pos hl'] at hst
              simp -dsimp -implicitDefEqProofs only [go_sem, Nat.reduceAdd, Nat.reduceEqDiff, reduceIte, reduceCtorEq, Nat.reduceLeDiff, Nat.reduceLT, Nat.reduceSub, Int.reduceEq, Int.reduceLT]
              rw [← hst]
              exact ⟨rfl, _, _, rfl, hfr⟩
            · have hl' : ¬ 60 < acc.length := by simp at hl; omega
              rw [if_neg hl'] at hst
              simp -dsimp -implicitDefEqProofs only [go_sem, Nat.reduceAdd, Nat.reduceEqDiff, reduceIte, reduceCtorEq, Nat.reduceLeDiff, Nat.reduceLT, Nat.reduceSub, Int.reduceEq, Int.reduceLT, g0, g5, g6, str_own i acc how, w1]
              rw [← hst]
              exact ⟨rfl, _, _, rfl, hfr⟩
          · have hy34 : y ≠ 34 := byte_ne h34 rfl
            rw [if_neg hy34] at hst
            simp -dsimp -implicitDefEqProofs only [go_sem, Nat.reduceAdd, Nat.reduceEqDiff, reduceIte, reduceCtorEq, Nat.reduceLeDiff, Nat.reduceLT, Nat.reduceSub, Int.reduceEq, Int.reduceLT, g0, g5, g6, strAt_nat, hg, hge]
            refine CondV_split (fun h92 => ?_) fun h92 => ?_
            · have hy : y = 92 := byte_of h92 rfl
              rw [if_pos hy] at hst
              simp -dsimp -implicitDefEqProofs only [go_sem, Nat.reduceAdd, Nat.reduceEqDiff, reduceIte, reduceCtorEq, Nat.reduceLeDiff, Nat.reduceLT, Nat.reduceSub, Int.reduceEq, Int.reduceLT, g0, g5, g6, w1, hjj]
              refine DoesK_of (escape_call _ _ _ _) ?_
              rintro v s' ⟨rfl, H1, C1, rfl, f1⟩
              by_cases he : (escP (S.drop (j + 1))).1 = 0
              · rw [if_neg (by simp [he])] at hst
                obtain ⟨hn1, hn2⟩ := escP_ok _ he
                rw [List.length_drop] at hn2
                rw [unqK_drop, List.drop_drop] at hst
                generalize escP (S.drop (j + 1)) = q at *
                obtain ⟨q1, q2, q3⟩ := q
                simp only at he hn1 hn2 hst
                subst he
                have w2 : IntKind.wrap .i64 (1 + (q3 : Int)) = ((1 + q3 : Nat) : Int) := by rw [wrap_i64 (by omega) (by omega)]; omega
                have w3 : IntKind.wrap .i64 ((j : Int) + ((1 + q3 : Nat) : Int)) = ((j + (1 + q3) : Nat) : Int) := by rw [wrap_i64 (by omega) (by omega)]; omega
                simp -dsimp -implicitDefEqProofs only [go_sem, Nat.reduceAdd, Nat.reduceEqDiff, reduceIte, reduceCtorEq, Nat.reduceLeDiff, Nat.reduceLT, Nat.reduceSub, Int.reduceEq, Int.reduceLT, escA, g0, g5, g6, partsV, happ q2 H1 C1 f1, w2, w3]
                refine next q2 (1 + q3) H1 C1 _ f1 (by omega) (by omega) (by rw [← hst]; congr 1 <;> first | (congr 1; omega) | omega) (by exact g0) rfl rfl
              · rw [if_pos he] at hst
                simp -dsimp -implicitDefEqProofs only [go_sem, Nat.reduceAdd, Nat.reduceEqDiff, reduceIte, reduceCtorEq, Nat.reduceLeDiff, Nat.reduceLT, Nat.reduceSub, Int.reduceEq, Int.reduceLT, escA, he, g0, g5, g6]
                rw [← hst]
                exact ⟨rfl, _, _, rfl, hfr.trans f1 (by simp)⟩
            · have hy92 : y ≠ 92 := byte_ne h92 rfl
              rw [if_neg hy92] at hst
              simp -dsimp -implicitDefEqProofs only [go_sem, Nat.reduceAdd, Nat.reduceEqDiff, reduceIte, reduceCtorEq, Nat.reduceLeDiff, Nat.reduceLT, Nat.reduceSub, Int.reduceEq, Int.reduceLT, g0, g5, g6, strAt_nat, hg, hge]
              refine DoesK_of (plainb_call _ _) ?_
              rintro v s' ⟨rfl, rfl⟩
              simp -dsimp -implicitDefEqProofs only [go_sem, Nat.reduceAdd, Nat.reduceEqDiff, reduceIte, reduceCtorEq, Nat.reduceLeDiff, Nat.reduceLT, Nat.reduceSub, Int.reduceEq, Int.reduceLT]
              refine CondV_split (fun hp => ?_) fun hp => ?_
              · rw [if_pos (by simpa using hp)] at hst
                simp -dsimp -implicitDefEqProofs only [go_sem, Nat.reduceAdd, Nat.reduceEqDiff, reduceIte, reduceCtorEq, Nat.reduceLeDiff, Nat.reduceLT, Nat.reduceSub, Int.reduceEq, Int.reduceLT]
                rw [← hst]
                exact ⟨rfl, _, _, rfl, hfr⟩
              · rw [if_neg (by simpa using hp)] at hst
                simp -dsimp -implicitDefEqProofs only [go_sem, Nat.reduceAdd, Nat.reduceEqDiff, reduceIte, reduceCtorEq, Nat.reduceLeDiff, Nat.reduceLT, Nat.reduceSub, Int.reduceEq, Int.reduceLT, g0, g5, g6, strAt_nat, hg, hge, partsV, happ y H C (Fr.refl _ _ _), w1]
                exact next y 1 H C _ (Fr.refl _ _ _) (Nat.le_refl _) hj' hst (by exact g0) rfl rfl
      · have hge : decide ((j : Int) ≥ (S.length : Int)) = true := by simp; omega
        have hdr : S.drop j = [] := by rw [List.drop_eq_nil_iff]; omega
        simp -dsimp -implicitDefEqProofs only [go_sem, Nat.reduceAdd, Nat.reduceEqDiff, reduceIte, reduceCtorEq, Nat.reduceLeDiff, Nat.reduceLT, Nat.reduceSub, Int.reduceEq, Int.reduceLT, g0, g5, g6, hge]
        rw [← hst, hdr]
        exact ⟨rfl, _, _, rfl, hfr⟩

end Go.Proofs.YtggdpckdlcngpaaDoor
