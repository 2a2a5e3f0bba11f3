/- Texts are read. One token. The next token. All tokens. The document's examples; the first bytes of a text; keys by the document. Keys: the program's way and the document's say the same. -/
import Derived.Test.YtggdpckdlcngpaaDoorLA
import Derived.Lib.IndexMore
set_option linter.unusedVariables false
set_option linter.unusedSimpArgs false
namespace Go.Proofs.YtggdpckdlcngpaaDoor
open Abs Go.RowKit

/-- A text behind its first sign: the text, how many bytes it takes, an error. -/
def unqK : List UInt8 → Nat → List UInt8 → Nat → List UInt8 × Nat × Int
  | [], _, _, _ => ([], 0, 11)
  | _ :: r, k + 1, acc, a => unqK r k acc a
  | c :: r, 0, acc, a => if c = 10 then ([], 0, 11) else if c = 34 then (if 60 < acc.length then ([], 0, 12) else (acc, a + 1, 0)) else
    if c = 92 then (if (escP r).1 ≠ 0 then ([], 0, (escP r).1) else unqK r (escP r).2.2 (acc ++ [(escP r).2.1]) (a + 1 + (escP r).2.2)) else
    if plainB c = false then ([], 0, 10) else unqK r 0 (acc ++ [c]) (a + 1)

theorem unqK_drop : ∀ (r : List UInt8) (n : Nat) (acc : List UInt8) (a : Nat), unqK r n acc a = unqK (r.drop n) 0 acc a
  | [], n, acc, a => by simp [unqK]
  | c :: r, 0, acc, a => rfl
  | c :: r, n + 1, acc, a => by rw [unqK, unqK_drop r n, List.drop_succ_cons]

def unq : List UInt8 → List UInt8 × Nat × Int
  | [] => ([], 0, 14)
  | c :: r => if c ≠ 34 then ([], 0, 14) else unqK r 0 [] 1

def unqA (p : List UInt8 × Nat × Int) : AV := .tuple [.str p.1, .int .i64 (p.2.1 : Int), .int .i64 p.2.2]

theorem hexStep_ok : ∀ (k n : Nat) (r : List UInt8), (hexStep k n r).1 = 0 → k ≤ r.length ∧ (hexStep k n r).2.2 = 3
  | 0, n, r, _ => ⟨Nat.zero_le _, rfl⟩
  | k + 1, n, [], h => by simp [hexStep] at h
  | k + 1, n, a :: r, h => by
    rw [hexStep] at h ⊢
    cases hx : hexV a with
    | none => rw [hx] at h; simp at h
    | some y =>
      rw [hx] at h
      obtain ⟨h1, h2⟩ := hexStep_ok k _ r h
      exact ⟨by simp; omega, h2⟩
theorem escP_ok (r : List UInt8) (h : (escP r).1 = 0) : 1 ≤ (escP r).2.2 ∧ (escP r).2.2 ≤ r.length := by
  cases r with
  | nil => simp [escP] at h
  | cons c r =>
    simp only [escP] at h ⊢
    split
    · simp
    · split
      · simp
      · split
        · simp
        · split
          · rename_i h1 h2 h3 h4
            rw [if_neg h1, if_neg h2, if_neg h3, if_pos h4] at h
            simp at h
          · rename_i h1 h2 h3 h4
            rw [if_neg h1, if_neg h2, if_neg h3, if_neg h4] at h
            obtain ⟨h5, h6⟩ := hexStep_ok _ _ _ h
            rw [h6]; simp; omega

theorem unq_call (s : List UInt8) (hs : s.length < 4294967281) (h : Hp) (c : Nat) (d : List (Nat × List AV)) : Does X 41 [.str s] ⟨h, c, d⟩ fun v s' => v = unqA (unq s) ∧ ∃ h' c', s' = ⟨h', c', d⟩ ∧ Fr h c h' c' [] := by
  refine call_aw b41 rfl rfl rfl ?_; delta b41
  cases s with
  | nil =>
    simp -dsimp -implicitDefEqProofs only [go_sem, Nat.reduceAdd, Nat.reduceEqDiff, reduceIte, reduceCtorEq, Nat.reduceLeDiff, Nat.reduceLT, Nat.reduceSub, Int.reduceEq, Int.reduceLT]
    exact ⟨rfl, _, _, rfl, Fr.refl _ _ _⟩
  | cons x r =>
    have e0 : decide ((x :: r) = []) = false := by simp
    have hs0 : strAt (.int .i64 0) (.str (x :: r)) = some (.int .u8 x.toNat) := rfl
    simp -dsimp -implicitDefEqProofs only [go_sem, Nat.reduceAdd, Nat.reduceEqDiff, reduceIte, reduceCtorEq, Nat.reduceLeDiff, Nat.reduceLT, Nat.reduceSub, Int.reduceEq, Int.reduceLT, e0, hs0]
    refine CondV_split (fun hq => ?_) fun hq => ?_
    · have hx : x ≠ 34 := by intro e; subst e; simp at hq
      simp -dsimp -implicitDefEqProofs only [go_sem, Nat.reduceAdd, Nat.reduceEqDiff, reduceIte, reduceCtorEq, Nat.reduceLeDiff, Nat.reduceLT, Nat.reduceSub, Int.reduceEq, Int.reduceLT]
      simp only [unq, if_pos hx]
      exact ⟨rfl, _, _, rfl, Fr.refl _ _ _⟩
    · have hx : x = 34 := byte_of (n := 34) (by simpa using hq) rfl
      simp -dsimp -implicitDefEqProofs only [go_sem, Nat.reduceAdd, Nat.reduceEqDiff, reduceIte, reduceCtorEq, Nat.reduceLeDiff, Nat.reduceLT, Nat.reduceSub, Int.reduceEq, Int.reduceLT]
      have hU : unq (x :: r) = unqK ((x :: r).drop 1) 0 [] 1 := by rw [unq, if_neg (by simp [hx])]; rfl
      rw [hU]
      generalize hS : x :: r = S at hs ⊢
      have hS1 : 1 ≤ S.length := by rw [← hS]; simp
      let I : Nat → AEnv → ASt → Prop := fun m e st => ∃ (j : Nat) (acc : List UInt8) (i : Option Nat) (H : Hp) (C : Nat), m = S.length - j ∧ 1 ≤ j ∧ j ≤ S.length ∧ acc.length ≤ j ∧ unqK (S.drop j) 0 acc j = unqK (S.drop 1) 0 [] 1 ∧ Fr h c H C [] ∧ OwnH H 1 i (acc.map byteV) ∧ (∀ k, i = some k → c ≤ k ∧ k < C) ∧
        e.get 0 = .str S ∧ e.get 5 = ownV i (acc.map byteV) ∧ e.get 6 = .int .i64 (j : Int) ∧ st = ⟨H, C, []⟩
      refine LoopK_rule I (S.length - 1) ⟨1, [], none, h, c, rfl, Nat.le_refl _, hS1, by simp, rfl, Fr.refl _ _ _, rfl, by simp, rfl, rfl, rfl, rfl⟩ ?_
      rintro m e st ⟨j, acc, i, H, C, rfl, hj1, hj, hacc, hst, hfr, how, hi, g0, g5, g6, rfl⟩
      by_cases hj' : j < S.length
      · have hge : decide ((j : Int) ≥ (S.length : Int)) = false := by simp; omega
        have hg := List.getElem?_eq_getElem hj'
        have hdr : S.drop j = S[j] :: S.drop (j + 1) := List.drop_eq_getElem_cons hj'
        generalize S[j] = y at hg hdr
        rw [hdr] at hst
        have hjj : j + 1 ≤ S.length := hj'
        have w1 : IntKind.wrap .i64 ((j : Int) + 1) = ((j + 1 : Nat) : Int) := by rw [wrap_i64 (by omega) (by omega)]; omega
        have happ : ∀ (z : UInt8) (H' : Hp) (C' : Nat), Fr H C H' C' [] → appK C' 0 1 1 ⟨H', C' + 1, []⟩ (ownV i (acc.map byteV)) (.slice .full [.int .u8 z.toNat]) = some (ownV (some (i.getD C')) ((acc ++ [z]).map byteV), ⟨upd H' (i.getD C') (.arr (acc.length + 1) 1), C' + 1, []⟩) := by
          intro z H' C' hf
          have := @appK_one C' 0 1 1 H' (C' + 1) [] i (acc.map byteV) (byteV z) .full (how.keep fun k hk => hf.at (hi k hk).2 (by simp)) rfl (by simp; omega)
          simp only [List.length_map, Nat.add_zero] at this
          rw [List.map_append]
          exact this
        have next : ∀ (z : UInt8) (n : Nat) (H' : Hp) (C' : Nat) (e' : AEnv), Fr H C H' C' [] → 1 ≤ n → j + n ≤ S.length → unqK (S.drop (j + n)) 0 (acc ++ [z]) (j + n) = unqK (S.drop 1) 0 [] 1 → e'.get 0 = .str S → e'.get 5 = ownV (some (i.getD C')) ((acc ++ [z]).map byteV) → e'.get 6 = .int .i64 ((j + n : Nat) : Int) →
            Again I .mk (S.length - j) e' ⟨upd H' (i.getD C') (.arr (acc.length + 1) 1), C' + 1, []⟩ := by
          intro z n H' C' e' hf hn hjn hu q0 q5 q6
          have hci : c ≤ i.getD C' ∧ i.getD C' < C' + 1 := by
            cases hi' : i with
            | none => have := hfr.le; have := hf.le; exact ⟨by simp; omega, by simp⟩
            | some k => have := hi k hi'; have := hf.le; simp; omega
          refine Again.of (S.length - (j + n)) (by omega) ⟨j + n, acc ++ [z], some (i.getD C'), _, _, rfl, by omega, hjn, by simp; omega, hu, (hfr.trans hf (by simp)).upd _ (.inr hci.1) (Nat.le_succ _), ?_, ?_, q0, q5, q6, rfl⟩
          · simp [OwnH, upd_same]
          · rintro k hk; injection hk with hk; subst hk; exact hci
        simp -dsimp -implicitDefEqProofs only [go_sem, Nat.reduceAdd, Nat.reduceEqDiff, reduceIte, reduceCtorEq, Nat.reduceLeDiff, Nat.reduceLT, Nat.reduceSub, Int.reduceEq, Int.reduceLT, g0, g5, g6, strAt_nat, hg, hge]
        refine CondV_split (fun h10 => ?_) fun h10 => ?_
        · have hy : y = 10 := byte_of h10 rfl
          simp -dsimp -implicitDefEqProofs only [go_sem, Nat.reduceAdd, Nat.reduceEqDiff, reduceIte, reduceCtorEq, Nat.reduceLeDiff, Nat.reduceLT, Nat.reduceSub, Int.reduceEq, Int.reduceLT]
          rw [← hst, hy]
          exact ⟨rfl, _, _, rfl, hfr⟩
        · have hy10 : y ≠ 10 := byte_ne h10 rfl
          rw [unqK, if_neg hy10] at hst
          simp -dsimp -implicitDefEqProofs only [go_sem, Nat.reduceAdd, Nat.reduceEqDiff, reduceIte, reduceCtorEq, Nat.reduceLeDiff, Nat.reduceLT, Nat.reduceSub, Int.reduceEq, Int.reduceLT, g0, g5, g6, strAt_nat, hg, hge]
          refine CondV_split (fun h34 => ?_) fun h34 => ?_
          · have hy : y = 34 := byte_of h34 rfl
            rw [if_pos hy] at hst
            simp -dsimp -implicitDefEqProofs only [go_sem, Nat.reduceAdd, Nat.reduceEqDiff, reduceIte, reduceCtorEq, Nat.reduceLeDiff, Nat.reduceLT, Nat.reduceSub, Int.reduceEq, Int.reduceLT, g0, g5, g6, strAt_nat, hg, hge, len_own i _ how, List.length_map]
            refine CondV_split (fun hl => ?_) fun hl => ?_
            · have hl' : 60 < acc.length := by simp at hl; omega
              rw [if_pos hl'] at hst
              simp -dsimp -implicitDefEqProofs only [go_sem, Nat.reduceAdd, Nat.reduceEqDiff, reduceIte, reduceCtorEq, Nat.reduceLeDiff, Nat.reduceLT, Nat.reduceSub, Int.reduceEq, Int.reduceLT]
              rw [← hst]
              exact ⟨rfl, _, _, rfl, hfr⟩
            · have hl' : ¬ 60 < acc.length := by simp at hl; omega
              rw [if_neg hl'] at hst
              simp -dsimp -implicitDefEqProofs only [go_sem, Nat.reduceAdd, Nat.reduceEqDiff, reduceIte, reduceCtorEq, Nat.reduceLeDiff, Nat.reduceLT, Nat.reduceSub, Int.reduceEq, Int.reduceLT, g0, g5, g6, str_own i acc how, w1]
              rw [← hst]
              exact ⟨rfl, _, _, rfl, hfr⟩
          · have hy34 : y ≠ 34 := byte_ne h34 rfl
            rw [if_neg hy34] at hst
            simp -dsimp -implicitDefEqProofs only [go_sem, Nat.reduceAdd, Nat.reduceEqDiff, reduceIte, reduceCtorEq, Nat.reduceLeDiff, Nat.reduceLT, Nat.reduceSub, Int.reduceEq, Int.reduceLT, g0, g5, g6, strAt_nat, hg, hge]
            refine CondV_split (fun h92 => ?_) fun h92 => ?_
            · have hy : y = 92 := byte_of h92 rfl
              rw [if_pos hy] at hst
              simp -dsimp -implicitDefEqProofs only [go_sem, Nat.reduceAdd, Nat.reduceEqDiff, reduceIte, reduceCtorEq, Nat.reduceLeDiff, Nat.reduceLT, Nat.reduceSub, Int.reduceEq, Int.reduceLT, g0, g5, g6, w1, hjj]
              refine DoesK_of (escape_call _ _ _ _) ?_
              rintro v s' ⟨rfl, H1, C1, rfl, f1⟩
              by_cases he : (escP (S.drop (j + 1))).1 = 0
              · rw [if_neg (by simp [he])] at hst
                obtain ⟨hn1, hn2⟩ := escP_ok _ he
                rw [List.length_drop] at hn2
                rw [unqK_drop, List.drop_drop] at hst
                generalize escP (S.drop (j + 1)) = q at *
                obtain ⟨q1, q2, q3⟩ := q
                simp only at he hn1 hn2 hst
                subst he
                have w2 : IntKind.wrap .i64 (1 + (q3 : Int)) = ((1 + q3 : Nat) : Int) := by rw [wrap_i64 (by omega) (by omega)]; omega
                have w3 : IntKind.wrap .i64 ((j : Int) + ((1 + q3 : Nat) : Int)) = ((j + (1 + q3) : Nat) : Int) := by rw [wrap_i64 (by omega) (by omega)]; omega
                simp -dsimp -implicitDefEqProofs only [go_sem, Nat.reduceAdd, Nat.reduceEqDiff, reduceIte, reduceCtorEq, Nat.reduceLeDiff, Nat.reduceLT, Nat.reduceSub, Int.reduceEq, Int.reduceLT, escA, g0, g5, g6, partsV, happ q2 H1 C1 f1, w2, w3]
                refine next q2 (1 + q3) H1 C1 _ f1 (by omega) (by omega) (by rw [← hst]; congr 1 <;> first | (congr 1; omega) | omega) (by exact g0) rfl rfl
              · rw [if_pos he] at hst
                simp -dsimp -implicitDefEqProofs only [go_sem, Nat.reduceAdd, Nat.reduceEqDiff, reduceIte, reduceCtorEq, Nat.reduceLeDiff, Nat.reduceLT, Nat.reduceSub, Int.reduceEq, Int.reduceLT, escA, he, g0, g5, g6]
                rw [← hst]
                exact ⟨rfl, _, _, rfl, hfr.trans f1 (by simp)⟩
            · have hy92 : y ≠ 92 := byte_ne h92 rfl
              rw [if_neg hy92] at hst
              simp -dsimp -implicitDefEqProofs only [go_sem, Nat.reduceAdd, Nat.reduceEqDiff, reduceIte, reduceCtorEq, Nat.reduceLeDiff, Nat.reduceLT, Nat.reduceSub, Int.reduceEq, Int.reduceLT, g0, g5, g6, strAt_nat, hg, hge]
              refine DoesK_of (plainb_call _ _) ?_
              rintro v s' ⟨rfl, rfl⟩
              simp -dsimp -implicitDefEqProofs only [go_sem, Nat.reduceAdd, Nat.reduceEqDiff, reduceIte, reduceCtorEq, Nat.reduceLeDiff, Nat.reduceLT, Nat.reduceSub, Int.reduceEq, Int.reduceLT]
              refine CondV_split (fun hp => ?_) fun hp => ?_
              · rw [if_pos (by simpa using hp)] at hst
                simp -dsimp -implicitDefEqProofs only [go_sem, Nat.reduceAdd, Nat.reduceEqDiff, reduceIte, reduceCtorEq, Nat.reduceLeDiff, Nat.reduceLT, Nat.reduceSub, Int.reduceEq, Int.reduceLT]
                rw [← hst]
                exact ⟨rfl, _, _, rfl, hfr⟩
              · rw [if_neg (by simpa using hp)] at hst
                simp -dsimp -implicitDefEqProofs only [go_sem, Nat.reduceAdd, Nat.reduceEqDiff, reduceIte, reduceCtorEq, Nat.reduceLeDiff, Nat.reduceLT, Nat.reduceSub, Int.reduceEq, Int.reduceLT, g0, g5, g6, strAt_nat, hg, hge, partsV, happ y H C (Fr.refl _ _ _), w1]
                exact next y 1 H C _ (Fr.refl _ _ _) (Nat.le_refl _) hj' hst (by exact g0) rfl rfl
      · have hge : decide ((j : Int) ≥ (S.length : Int)) = true := by simp; omega
        have hdr : S.drop j = [] := by rw [List.drop_eq_nil_iff]; omega
        simp -dsimp -implicitDefEqProofs only [go_sem, Nat.reduceAdd, Nat.reduceEqDiff, reduceIte, reduceCtorEq, Nat.reduceLeDiff, Nat.reduceLT, Nat.reduceSub, Int.reduceEq, Int.reduceLT, g0, g5, g6, hge]
        rw [← hst, hdr]
        exact ⟨rfl, _, _, rfl, hfr⟩

end Go.Proofs.YtggdpckdlcngpaaDoor

set_option linter.unusedVariables false
set_option linter.unusedSimpArgs false
namespace Go.Proofs.YtggdpckdlcngpaaDoor
open Abs Go.RowKit

def smallB (c : UInt8) : Bool := isSmall c.toNat
def signsText : List UInt8 := [61, 60, 43, 45, 42, 47, 37, 94, 59, 124, 40, 41, 44, 95]
def signB (c : UInt8) : Bool := decide (Lib.indexByte signsText c ≥ 0)

structure Tk where
  k : Int
  t : List UInt8
  n : Int

/-- The token that a text begins with: an error, the token, how many bytes it has. -/
def tokP : List UInt8 → Int × Tk × Nat
  | [] => (0, ⟨0, [], 0⟩, 0)
  | c :: r => if digitB c = true then (if decV 0 ((c :: r).takeWhile digitB) ≤ 4611686018427387903 then (0, ⟨1, [], (decV 0 ((c :: r).takeWhile digitB) : Nat)⟩, ((c :: r).takeWhile digitB).length) else (13, ⟨0, [], 0⟩, 0))
    else if c = 34 then (if (unq (c :: r)).2.2 = 0 then (0, ⟨2, (unq (c :: r)).1, 0⟩, (unq (c :: r)).2.1) else ((unq (c :: r)).2.2, ⟨0, [], 0⟩, 0))
    else if (smallB c || largeB c) = true then (if 16 < ((c :: r).takeWhile innerB).length then (12, ⟨0, [], 0⟩, 0) else (0, ⟨nameKind ((c :: r).takeWhile innerB), (c :: r).takeWhile innerB, 0⟩, ((c :: r).takeWhile innerB).length))
    else if signB c = true then (if (c :: r).take 2 = [45, 62] then (0, ⟨5, (c :: r).take 2, 0⟩, 2) else (0, ⟨5, (c :: r).take 1, 0⟩, 1))
    else (10, ⟨0, [], 0⟩, 0)

theorem text_call (s : List UInt8) (hs : s.length < 4294967281) (r t i : Nat) (hi : i ≤ s.length) (h : Hp) (c : Nat) (d : List (Nat × List AV)) (hrc : r < c) (htc : t < c) (hr : h r = some (rdr s i)) (hrt : r ≠ t) (a : Nat) (ht : h t = some (tokO 0 [] 0 a)) (hn : (unq (s.drop i)).2.1 < 4294967281) :
    Does X 26 [.ptr r 0, .ptr t 0] ⟨h, c, d⟩ fun v s' => v = .int .i64 (unq (s.drop i)).2.2 ∧ ∃ h' c', s' = ⟨h', c', d⟩ ∧ Fr h c h' c' [r, t] ∧ h' r = some (rdr s (i + (unq (s.drop i)).2.1)) ∧ h' t = some (tokO 2 (unq (s.drop i)).1 0 a) := by
  refine call_aw b26 rfl rfl rfl ?_; delta b26
  simp -dsimp -implicitDefEqProofs only [go_sem, Nat.reduceAdd, Nat.reduceEqDiff, reduceIte, reduceCtorEq, Nat.reduceLeDiff, Nat.reduceLT, Nat.reduceSub, Int.reduceEq, Int.reduceLT, hr, rdr, hi]
  refine DoesK_of (unq_call (s.drop i) (by simp; omega) _ _ _) ?_
  rintro v s' ⟨rfl, h1, c1, rfl, f1⟩
  have hr1 : h1 r = some (rdr s i) := (f1.at hrc (by simp)).trans hr
  have ht1 : h1 t = some (tokO 0 [] 0 a) := (f1.at htc (by simp)).trans ht
  have hu : ∀ h o, upd h t o r = h r := fun h o => upd_ne h o hrt
  generalize unq (s.drop i) = p at *
  obtain ⟨p1, p2, p3⟩ := p
  simp only at hn
  have w : IntKind.wrap .i64 ((i : Int) + (p2 : Int)) = ((i + p2 : Nat) : Int) := by rw [wrap_i64 (by omega) (by omega)]; omega
  simp -dsimp -implicitDefEqProofs only [go_sem, Nat.reduceAdd, Nat.reduceEqDiff, reduceIte, reduceCtorEq, Nat.reduceLeDiff, Nat.reduceLT, Nat.reduceSub, Int.reduceEq, Int.reduceLT, unqA, hr1, ht1, tokO, tokC, rdr, hu, w]
  refine ⟨_, _, rfl, ((f1.wide (by simp)).upd _ (.inl (by simp)) (Nat.le_refl _)).upd _ (.inl (by simp)) (Nat.le_refl _), ?_, ?_⟩
  · rw [upd_same]
  · rw [upd_ne _ _ (Ne.symm hrt), upd_same]

theorem unqK_len : ∀ (l : List UInt8) (n : Nat) (acc : List UInt8) (a : Nat), (unqK l n acc a).2.1 ≤ a + l.length
  | [], n, acc, a => by simp [unqK]
  | c :: r, k + 1, acc, a => by rw [unqK]; have := unqK_len r k acc a; simp; omega
  | c :: r, 0, acc, a => by
    simp only [unqK]
    split
    · simp
    · split
      · split
        · simp
        · first | (simp; done) | (simp; omega)
      · split
        · split
          · simp
          · rename_i h1
            have he : (escP r).1 = 0 := by simpa using h1
            obtain ⟨h2, h3⟩ := escP_ok r he
            rw [unqK_drop]
            have := unqK_len (r.drop (escP r).2.2) 0 (acc ++ [(escP r).2.1]) (a + 1 + (escP r).2.2)
            simp at this ⊢; omega
        · split
          · simp
          · have := unqK_len r 0 (acc ++ [c]) (a + 1)
            simp; omega
termination_by l => l.length

theorem unq_len (l : List UInt8) : (unq l).2.1 ≤ l.length := by
  cases l with
  | nil => simp [unq]
  | cons c r =>
    rw [unq]; split
    · simp
    · have := unqK_len r 0 [] 1
      simp; omega

end Go.Proofs.YtggdpckdlcngpaaDoor

set_option linter.unusedVariables false
set_option linter.unusedSimpArgs false
namespace Go.Proofs.YtggdpckdlcngpaaDoor
open Abs Go.RowKit

/-- How a token is read by a function of the reader. -/
def ReadsP (s : List UInt8) (r t i c a : Nat) (h : Hp) (d : List (Nat × List AV)) (p : Int × Tk × Nat) : AV → ASt → Prop := fun v s' =>
  v = .int .i64 p.1 ∧ ∃ h' c' k w n, s' = ⟨h', c', d⟩ ∧ Fr h c h' c' [r, t] ∧ h' t = some (tokO k w n a) ∧ (p.1 = 0 → k = p.2.1.k ∧ w = p.2.1.t ∧ n = p.2.1.n ∧ h' r = some (rdr s (i + p.2.2)))

section
variable {s : List UInt8} {r t a c : Nat} {h : Hp} {d : List (Nat × List AV)} {x : UInt8} {l : List UInt8}

theorem drop_lt (hx : s.drop a = x :: l) : a < s.length := by
  rcases Nat.lt_or_ge a s.length with h' | h'
  · exact h'
  · rw [List.drop_eq_nil_of_le h'] at hx; cases hx

theorem reads_number (hs : s.length < 4294967281) (hx : s.drop a = x :: l) (hd : digitB x = true) (hrc : r < c) (htc : t < c) (hrt : r ≠ t) (hr : h r = some (rdr s a)) (ht : h t = some (tokO 0 [] 0 a)) :
    Does X 25 [.ptr r 0, .ptr t 0] ⟨h, c, d⟩ (ReadsP s r t a c a h d (tokP (s.drop a))) := by
  have hP : tokP (s.drop a) = if decV 0 ((x :: l).takeWhile digitB) ≤ 4611686018427387903 then (0, ⟨1, [], (decV 0 ((x :: l).takeWhile digitB) : Nat)⟩, ((x :: l).takeWhile digitB).length) else (13, ⟨0, [], 0⟩, 0) := by
    rw [hx, tokP, if_pos hd]
  refine (number_call s hs r t a (Nat.le_of_lt (drop_lt hx)) h c d hr hrt a ht _ rfl).mono fun v s' hv => ?_
  rw [hP, ← hx]
  split at hv
  · rename_i hb
    obtain ⟨rfl, rfl⟩ := hv
    rw [if_pos hb]
    refine ⟨rfl, _, _, _, _, _, rfl, ((Fr.refl _ _ _).upd _ (.inl (by simp)) (Nat.le_refl _)).upd _ (.inl (by simp)) (Nat.le_refl _), upd_same _ _ _, fun _ => ⟨rfl, rfl, rfl, ?_⟩⟩
    rw [upd_ne _ _ hrt, upd_same]
  · rename_i hb
    obtain ⟨rfl, rfl⟩ := hv
    rw [if_neg hb]
    refine ⟨rfl, _, _, _, _, _, rfl, (Fr.refl _ _ _).upd _ (.inl (by simp)) (Nat.le_refl _), (upd_ne _ _ (Ne.symm hrt)).trans ht, fun e => by simp at e⟩

theorem reads_text (hs : s.length < 4294967281) (hx : s.drop a = x :: l) (hd : digitB x = false) (hq : x = 34) (hrc : r < c) (htc : t < c) (hrt : r ≠ t) (hr : h r = some (rdr s a)) (ht : h t = some (tokO 0 [] 0 a)) :
    Does X 26 [.ptr r 0, .ptr t 0] ⟨h, c, d⟩ (ReadsP s r t a c a h d (tokP (s.drop a))) := by
  have hP : tokP (s.drop a) = if (unq (x :: l)).2.2 = 0 then (0, ⟨2, (unq (x :: l)).1, 0⟩, (unq (x :: l)).2.1) else ((unq (x :: l)).2.2, ⟨0, [], 0⟩, 0) := by
    rw [hx, tokP, if_neg (by simp [hd]), if_pos hq]
  have hle : (unq (s.drop a)).2.1 < 4294967281 := by
    have := unq_len (s.drop a)
    simp at this; omega
  refine (text_call s hs r t a (Nat.le_of_lt (drop_lt hx)) h c d hrc htc hr hrt a ht hle).mono fun v s' hv => ?_
  obtain ⟨rfl, h', c', rfl, f, hr', ht'⟩ := hv
  rw [hP, ← hx]
  split
  · rename_i he
    exact ⟨by rw [he], _, _, _, _, _, rfl, f, ht', fun _ => ⟨rfl, rfl, rfl, hr'⟩⟩
  · rename_i he
    exact ⟨rfl, _, _, _, _, _, rfl, f, ht', fun e => absurd e he⟩

theorem reads_name (hs : s.length < 4294967281) (hx : s.drop a = x :: l) (hd : digitB x = false) (hq : x ≠ 34) (hn : (smallB x || largeB x) = true) (hrc : r < c) (htc : t < c) (hrt : r ≠ t) (hr : h r = some (rdr s a)) (ht : h t = some (tokO 0 [] 0 a)) :
    Does X 29 [.ptr r 0, .ptr t 0] ⟨h, c, d⟩ (ReadsP s r t a c a h d (tokP (s.drop a))) := by
  have hP : tokP (s.drop a) = if 16 < ((x :: l).takeWhile innerB).length then (12, ⟨0, [], 0⟩, 0) else (0, ⟨nameKind ((x :: l).takeWhile innerB), (x :: l).takeWhile innerB, 0⟩, ((x :: l).takeWhile innerB).length) := by
    rw [hx, tokP, if_neg (by simp [hd]), if_neg hq, if_pos hn]
  have hne : (s.drop a).takeWhile innerB ≠ [] := by
    rw [hx, List.takeWhile_cons, if_pos]
    · simp
    · simp only [innerB, isInner, smallB, largeB, Bool.or_eq_true] at hn ⊢
      exact hn.elim .inl fun h => .inr (.inl h)
  refine (name_call s hs r t a (drop_lt hx) h c d hr hrt a ht _ rfl hne).mono fun v s' hv => ?_
  rw [hP, ← hx]
  split at hv
  · rename_i hb
    obtain ⟨rfl, o, rfl, rfl⟩ := hv
    rw [if_pos hb]
    exact ⟨rfl, _, _, _, _, _, rfl, ((Fr.refl _ _ _).upd _ (.inl (by simp)) (Nat.le_refl _)).upd _ (.inl (by simp)) (Nat.le_refl _), upd_same _ _ _, fun e => by simp at e⟩
  · rename_i hb
    obtain ⟨rfl, rfl⟩ := hv
    rw [if_neg hb]
    exact ⟨rfl, _, _, _, _, _, rfl, ((Fr.refl _ _ _).upd _ (.inl (by simp)) (Nat.le_refl _)).upd _ (.inl (by simp)) (Nat.le_refl _), upd_same _ _ _, fun _ => ⟨rfl, rfl, rfl, (upd_ne _ _ hrt).trans (upd_same _ _ _)⟩⟩

theorem reads_sign (hs : s.length < 4294967281) (hx : s.drop a = x :: l) (hd : digitB x = false) (hq : x ≠ 34) (hn : (smallB x || largeB x) = false) (hg : signB x = true) (hrc : r < c) (htc : t < c) (hrt : r ≠ t) (hr : h r = some (rdr s a)) (ht : h t = some (tokO 0 [] 0 a)) :
    Does X 31 [.ptr r 0, .ptr t 0] ⟨h, c, d⟩ (ReadsP s r t a c a h d (tokP (s.drop a))) := by
  have hP : tokP (s.drop a) = if (x :: l).take 2 = [45, 62] then (0, ⟨5, (x :: l).take 2, 0⟩, 2) else (0, ⟨5, (x :: l).take 1, 0⟩, 1) := by
    rw [hx, tokP, if_neg (by simp [hd]), if_neg hq, if_neg (by simp [hn]), if_pos hg]
  refine (sign_call s hs r t a (drop_lt hx) h c d hr hrt a ht _ rfl).mono fun v s' hv => ?_
  obtain ⟨rfl, rfl⟩ := hv
  rw [hP, ← hx]
  split
  · exact ⟨rfl, _, _, _, _, _, rfl, ((Fr.refl _ _ _).upd _ (.inl (by simp)) (Nat.le_refl _)).upd _ (.inl (by simp)) (Nat.le_refl _), (upd_ne _ _ (Ne.symm hrt)).trans (upd_same _ _ _), fun _ => ⟨rfl, rfl, rfl, upd_same _ _ _⟩⟩
  · exact ⟨rfl, _, _, _, _, _, rfl, ((Fr.refl _ _ _).upd _ (.inl (by simp)) (Nat.le_refl _)).upd _ (.inl (by simp)) (Nat.le_refl _), (upd_ne _ _ (Ne.symm hrt)).trans (upd_same _ _ _), fun _ => ⟨rfl, rfl, rfl, upd_same _ _ _⟩⟩

theorem reads_odd (hx : s.drop a = x :: l) (hd : digitB x = false) (hq : x ≠ 34) (hn : (smallB x || largeB x) = false) (hg : signB x = false) (ht : h t = some (tokO 0 [] 0 a)) :
    Does X 23 [.ptr r 0, .ptr t 0] ⟨h, c, d⟩ (ReadsP s r t a c a h d (tokP (s.drop a))) := by
  have hP : tokP (s.drop a) = (10, ⟨0, [], 0⟩, 0) := by
    rw [hx, tokP, if_neg (by simp [hd]), if_neg hq, if_neg (by simp [hn]), if_neg (by simp [hg])]
  refine (odd_call _ _ _).mono fun v s' hv => ?_
  obtain ⟨rfl, rfl⟩ := hv
  rw [hP]
  exact ⟨rfl, _, _, _, _, _, rfl, Fr.refl _ _ _, ht, fun e => by simp at e⟩
end

def zeroT : List AV := [.int .i64 0, .str [], .int .i64 0, .int .i64 0]

theorem skipM_le : ∀ (b : Bool) (l : List UInt8), skipM b l ≤ l.length
  | b, [] => by cases b <;> simp [skipM]
  | true, c :: l => by
    have h1 := skipM_le false l
    have h2 := skipM_le true l
    simp only [skipM, List.length_cons]; split <;> omega
  | false, c :: l => by
    have h1 := skipM_le false l
    have h2 := skipM_le true l
    simp only [skipM, List.length_cons]; split
    · omega
    · split <;> omega

theorem next_call (s : List UInt8) (hs : s.length < 4294967281) (r i : Nat) (hi : i ≤ s.length) (h : Hp) (c : Nat) (d : List (Nat × List AV)) (hrc : r < c) (hr : h r = some (rdr s i)) (a : Nat) (ha : a = i + skipM false (s.drop i)) :
    Does X 18 [.ptr r 0] ⟨h, c, d⟩ fun v s' => ∃ k w n h' c', v = .tuple [.agg (tokC k w n a), .int .i64 (tokP (s.drop a)).1] ∧ s' = ⟨h', c', d⟩ ∧ Fr h c h' c' [r] ∧
      ((tokP (s.drop a)).1 = 0 → k = (tokP (s.drop a)).2.1.k ∧ w = (tokP (s.drop a)).2.1.t ∧ n = (tokP (s.drop a)).2.1.n ∧ h' r = some (rdr s (a + (tokP (s.drop a)).2.2))) := by
  refine call_aw b18 rfl rfl rfl ?_; delta b18
  have hrc1 : r ≠ c := by omega
  have hrc2 : r ≠ c + 1 := by omega
  simp -dsimp -implicitDefEqProofs only [go_sem, Nat.reduceAdd, Nat.reduceEqDiff, reduceIte, reduceCtorEq, Nat.reduceLeDiff, Nat.reduceLT, Nat.reduceSub, Int.reduceEq, Int.reduceLT, OpK_alloc, preH]
  refine DoesK_of (skip_call s hs r i hi _ _ _ (by rw [upd_ne _ _ hrc1]; exact hr)) ?_
  rintro v s' ⟨rfl, rfl⟩
  rw [← ha]
  have hu1 : ∀ h o, upd h c o r = h r := fun h o => upd_ne h o hrc1
  have hu2 : ∀ h o, upd h (c + 1) o r = h r := fun h o => upd_ne h o hrc2
  have hu3 : ∀ h o, upd h (c + 1) o c = h c := fun h o => upd_ne h o (by omega)
  have hu4 : ∀ h o, upd h r o c = h c := fun h o => upd_ne h o (by omega)
  simp -dsimp -implicitDefEqProofs only [go_sem, Nat.reduceAdd, Nat.reduceEqDiff, reduceIte, reduceCtorEq, Nat.reduceLeDiff, Nat.reduceLT, Nat.reduceSub, Int.reduceEq, Int.reduceLT, OpK_alloc, preH, hu1, hu2, hu3, hu4, rdr, fillV]
  have hF : Fr h c (upd (upd (upd h c (.cells zeroT)) r (rdr s a)) (c + 1) (tokO 0 [] 0 a)) (c + 1 + 1) [r] := (((Fr.refl h c [r]).upd _ (.inr (Nat.le_refl _)) (Nat.le_refl _)).upd _ (.inl (by simp)) (Nat.le_refl _)).upd _ (.inr (by omega)) (by omega)
  have Hr : upd (upd (upd h c (.cells zeroT)) r (rdr s a)) (c + 1) (tokO 0 [] 0 a) r = some (rdr s a) := by rw [hu2, upd_same]
  have Ht : upd (upd (upd h c (.cells zeroT)) r (rdr s a)) (c + 1) (tokO 0 [] 0 a) (c + 1) = some (tokO 0 [] 0 a) := upd_same _ _ _
  have Hc : upd (upd (upd h c (.cells zeroT)) r (rdr s a)) (c + 1) (tokO 0 [] 0 a) c = some (.cells zeroT) := by rw [hu3, hu4, upd_same]
  refine CondV_split (fun hq => ?_) fun hq => ?_
  · have hal : a = s.length := by simp at hq; omega
    have htk : tokP (s.drop a) = (0, ⟨0, [], 0⟩, 0) := by rw [hal, List.drop_length]; rfl
    rw [htk]
    change Aw X _ _ _ _ _ ⟨upd (upd (upd h c (.cells zeroT)) r (rdr s a)) (c + 1) (tokO 0 [] 0 a), _, _⟩
    generalize upd (upd (upd h c (.cells zeroT)) r (rdr s a)) (c + 1) (tokO 0 [] 0 a) = H at hF Hr Ht Hc ⊢
    simp -dsimp -implicitDefEqProofs only [go_sem, Nat.reduceAdd, Nat.reduceEqDiff, reduceIte, reduceCtorEq, Nat.reduceLeDiff, Nat.reduceLT, Nat.reduceSub, Int.reduceEq, Int.reduceLT, Hr, Ht, Hc, tokO, tokC, zeroT, ldCells]
    exact ⟨_, _, _, _, _, rfl, rfl, hF.upd _ (.inr (Nat.le_refl _)) (Nat.le_refl _), fun _ => ⟨rfl, rfl, rfl, (upd_ne _ _ hrc1).trans Hr⟩⟩
  · have hal : a < s.length := by
      have h1 : skipM false (s.drop i) ≤ (s.drop i).length := skipM_le _ _
      rw [List.length_drop] at h1
      simp at hq; omega
    change Aw X _ _ _ _ _ ⟨upd (upd (upd h c (.cells zeroT)) r (rdr s a)) (c + 1) (tokO 0 [] 0 a), _, _⟩
    generalize upd (upd (upd h c (.cells zeroT)) r (rdr s a)) (c + 1) (tokO 0 [] 0 a) = H at hF Hr Ht Hc ⊢
    have hg := List.getElem?_eq_getElem hal
    have hdr : s.drop a = s[a] :: s.drop (a + 1) := List.drop_eq_getElem_cons hal
    generalize s[a] = x at hg hdr
    generalize hl : s.drop (a + 1) = l at hdr
    simp -dsimp -implicitDefEqProofs only [go_sem, Nat.reduceAdd, Nat.reduceEqDiff, reduceIte, reduceCtorEq, Nat.reduceLeDiff, Nat.reduceLT, Nat.reduceSub, Int.reduceEq, Int.reduceLT, Hr, rdr, strAt_nat, hg]
    refine DoesK_of (digit_call _ _) ?_
    rintro v s' ⟨rfl, rfl⟩
    simp -dsimp -implicitDefEqProofs only [go_sem, Nat.reduceAdd, Nat.reduceEqDiff, reduceIte, reduceCtorEq, Nat.reduceLeDiff, Nat.reduceLT, Nat.reduceSub, Int.reduceEq, Int.reduceLT]
    refine CondV_split (fun hd => ?_) fun hd => ?_
    · simp -dsimp -implicitDefEqProofs only [go_sem, Nat.reduceAdd, Nat.reduceEqDiff, reduceIte, reduceCtorEq, Nat.reduceLeDiff, Nat.reduceLT, Nat.reduceSub, Int.reduceEq, Int.reduceLT]
      refine DoesK_of (reads_number hs hdr hd (by omega) (by omega) (by omega) Hr Ht) ?_
      rintro v s' ⟨rfl, h', c', k, w, n, rfl, f, ht', hres⟩
      have hc' : h' c = some (.cells zeroT) := (f.at (by omega) (by simp; omega)).trans Hc
      simp -dsimp -implicitDefEqProofs only [go_sem, Nat.reduceAdd, Nat.reduceEqDiff, reduceIte, reduceCtorEq, Nat.reduceLeDiff, Nat.reduceLT, Nat.reduceSub, Int.reduceEq, Int.reduceLT, ht', tokO, tokC, hc', zeroT, ldCells, hu3]
      exact ⟨_, _, _, _, _, rfl, rfl, ((hF.trans f (by simp)).upd _ (.inr (Nat.le_refl _)) (Nat.le_refl _)), fun e => by obtain ⟨e1, e2, e3, e4⟩ := hres e; exact ⟨e1, e2, e3, (upd_ne _ _ hrc1).trans e4⟩⟩
    · simp -dsimp -implicitDefEqProofs only [go_sem, Nat.reduceAdd, Nat.reduceEqDiff, reduceIte, reduceCtorEq, Nat.reduceLeDiff, Nat.reduceLT, Nat.reduceSub, Int.reduceEq, Int.reduceLT]
      refine CondV_split (fun h34 => ?_) fun h34 => ?_
      · have hx34 : x = 34 := byte_of h34 rfl
        simp -dsimp -implicitDefEqProofs only [go_sem, Nat.reduceAdd, Nat.reduceEqDiff, reduceIte, reduceCtorEq, Nat.reduceLeDiff, Nat.reduceLT, Nat.reduceSub, Int.reduceEq, Int.reduceLT]
        refine DoesK_of (reads_text hs hdr hd hx34 (by omega) (by omega) (by omega) Hr Ht) ?_
        rintro v s' ⟨rfl, h', c', k, w, n, rfl, f, ht', hres⟩
        have hc' : h' c = some (.cells zeroT) := (f.at (by omega) (by simp; omega)).trans Hc
        simp -dsimp -implicitDefEqProofs only [go_sem, Nat.reduceAdd, Nat.reduceEqDiff, reduceIte, reduceCtorEq, Nat.reduceLeDiff, Nat.reduceLT, Nat.reduceSub, Int.reduceEq, Int.reduceLT, ht', tokO, tokC, hc', zeroT, ldCells, hu3]
        exact ⟨_, _, _, _, _, rfl, rfl, ((hF.trans f (by simp)).upd _ (.inr (Nat.le_refl _)) (Nat.le_refl _)), fun e => by obtain ⟨e1, e2, e3, e4⟩ := hres e; exact ⟨e1, e2, e3, (upd_ne _ _ hrc1).trans e4⟩⟩
      · have hx34 : x ≠ 34 := byte_ne h34 rfl
        simp -dsimp -implicitDefEqProofs only [go_sem, Nat.reduceAdd, Nat.reduceEqDiff, reduceIte, reduceCtorEq, Nat.reduceLeDiff, Nat.reduceLT, Nat.reduceSub, Int.reduceEq, Int.reduceLT]
        refine DoesK_of (small_call _ _) ?_
        rintro v s' ⟨rfl, rfl⟩
        cases hsm : isSmall x.toNat with
        | true =>
          simp -dsimp -implicitDefEqProofs only [go_sem, Nat.reduceAdd, Nat.reduceEqDiff, reduceIte, reduceCtorEq, Nat.reduceLeDiff, Nat.reduceLT, Nat.reduceSub, Int.reduceEq, Int.reduceLT, CondV_true, CondV_false]
          refine DoesK_of (reads_name hs hdr hd hx34 (by simp [smallB, hsm]) (by omega) (by omega) (by omega) Hr Ht) ?_
          rintro v s' ⟨rfl, h', c', k, w, n, rfl, f, ht', hres⟩
          have hc' : h' c = some (.cells zeroT) := (f.at (by omega) (by simp; omega)).trans Hc
          simp -dsimp -implicitDefEqProofs only [go_sem, Nat.reduceAdd, Nat.reduceEqDiff, reduceIte, reduceCtorEq, Nat.reduceLeDiff, Nat.reduceLT, Nat.reduceSub, Int.reduceEq, Int.reduceLT, ht', tokO, tokC, hc', zeroT, ldCells, hu3]
          exact ⟨_, _, _, _, _, rfl, rfl, ((hF.trans f (by simp)).upd _ (.inr (Nat.le_refl _)) (Nat.le_refl _)), fun e => by obtain ⟨e1, e2, e3, e4⟩ := hres e; exact ⟨e1, e2, e3, (upd_ne _ _ hrc1).trans e4⟩⟩
        | false =>
          simp -dsimp -implicitDefEqProofs only [go_sem, Nat.reduceAdd, Nat.reduceEqDiff, reduceIte, reduceCtorEq, Nat.reduceLeDiff, Nat.reduceLT, Nat.reduceSub, Int.reduceEq, Int.reduceLT, CondV_true, CondV_false]
          refine DoesK_of (large_call _ _) ?_
          rintro v s' ⟨rfl, rfl⟩
          cases hlg : isLarge x.toNat with
          | true =>
            simp -dsimp -implicitDefEqProofs only [go_sem, Nat.reduceAdd, Nat.reduceEqDiff, reduceIte, reduceCtorEq, Nat.reduceLeDiff, Nat.reduceLT, Nat.reduceSub, Int.reduceEq, Int.reduceLT, CondV_true, CondV_false]
            refine DoesK_of (reads_name hs hdr hd hx34 (by simp [largeB, hlg]) (by omega) (by omega) (by omega) Hr Ht) ?_
            rintro v s' ⟨rfl, h', c', k, w, n, rfl, f, ht', hres⟩
            have hc' : h' c = some (.cells zeroT) := (f.at (by omega) (by simp; omega)).trans Hc
            simp -dsimp -implicitDefEqProofs only [go_sem, Nat.reduceAdd, Nat.reduceEqDiff, reduceIte, reduceCtorEq, Nat.reduceLeDiff, Nat.reduceLT, Nat.reduceSub, Int.reduceEq, Int.reduceLT, ht', tokO, tokC, hc', zeroT, ldCells, hu3]
            exact ⟨_, _, _, _, _, rfl, rfl, ((hF.trans f (by simp)).upd _ (.inr (Nat.le_refl _)) (Nat.le_refl _)), fun e => by obtain ⟨e1, e2, e3, e4⟩ := hres e; exact ⟨e1, e2, e3, (upd_ne _ _ hrc1).trans e4⟩⟩
          | false =>
            simp -dsimp -implicitDefEqProofs only [go_sem, Nat.reduceAdd, Nat.reduceEqDiff, reduceIte, reduceCtorEq, Nat.reduceLeDiff, Nat.reduceLT, Nat.reduceSub, Int.reduceEq, Int.reduceLT, CondV_true, CondV_false]
            refine DoesK_of (indexByte_call signsText x _) ?_
            rintro v s' ⟨rfl, rfl⟩
            have hsl : (smallB x || largeB x) = false := by simp [smallB, largeB, hsm, hlg]
            simp -dsimp -implicitDefEqProofs only [go_sem, Nat.reduceAdd, Nat.reduceEqDiff, reduceIte, reduceCtorEq, Nat.reduceLeDiff, Nat.reduceLT, Nat.reduceSub, Int.reduceEq, Int.reduceLT]
            refine CondV_split (fun hsg => ?_) fun hsg => ?_
            · simp -dsimp -implicitDefEqProofs only [go_sem, Nat.reduceAdd, Nat.reduceEqDiff, reduceIte, reduceCtorEq, Nat.reduceLeDiff, Nat.reduceLT, Nat.reduceSub, Int.reduceEq, Int.reduceLT]
              refine DoesK_of (reads_sign hs hdr hd hx34 hsl hsg (by omega) (by omega) (by omega) Hr Ht) ?_
              rintro v s' ⟨rfl, h', c', k, w, n, rfl, f, ht', hres⟩
              have hc' : h' c = some (.cells zeroT) := (f.at (by omega) (by simp; omega)).trans Hc
              simp -dsimp -implicitDefEqProofs only [go_sem, Nat.reduceAdd, Nat.reduceEqDiff, reduceIte, reduceCtorEq, Nat.reduceLeDiff, Nat.reduceLT, Nat.reduceSub, Int.reduceEq, Int.reduceLT, ht', tokO, tokC, hc', zeroT, ldCells, hu3]
              exact ⟨_, _, _, _, _, rfl, rfl, ((hF.trans f (by simp)).upd _ (.inr (Nat.le_refl _)) (Nat.le_refl _)), fun e => by obtain ⟨e1, e2, e3, e4⟩ := hres e; exact ⟨e1, e2, e3, (upd_ne _ _ hrc1).trans e4⟩⟩
            · simp -dsimp -implicitDefEqProofs only [go_sem, Nat.reduceAdd, Nat.reduceEqDiff, reduceIte, reduceCtorEq, Nat.reduceLeDiff, Nat.reduceLT, Nat.reduceSub, Int.reduceEq, Int.reduceLT]
              refine DoesK_of (reads_odd hdr hd hx34 hsl hsg Ht) ?_
              rintro v s' ⟨rfl, h', c', k, w, n, rfl, f, ht', hres⟩
              have hc' : h' c = some (.cells zeroT) := (f.at (by omega) (by simp; omega)).trans Hc
              simp -dsimp -implicitDefEqProofs only [go_sem, Nat.reduceAdd, Nat.reduceEqDiff, reduceIte, reduceCtorEq, Nat.reduceLeDiff, Nat.reduceLT, Nat.reduceSub, Int.reduceEq, Int.reduceLT, ht', tokO, tokC, hc', zeroT, ldCells, hu3]
              exact ⟨_, _, _, _, _, rfl, rfl, ((hF.trans f (by simp)).upd _ (.inr (Nat.le_refl _)) (Nat.le_refl _)), fun e => by obtain ⟨e1, e2, e3, e4⟩ := hres e; exact ⟨e1, e2, e3, (upd_ne _ _ hrc1).trans e4⟩⟩

end Go.Proofs.YtggdpckdlcngpaaDoor

set_option linter.unusedVariables false
set_option linter.unusedSimpArgs false
namespace Go.Proofs.YtggdpckdlcngpaaDoor
open Abs Go.RowKit

/-- The tokens from a place on: they, a place, an error. -/
def toksP (s : List UInt8) : Nat → Nat → List (Tk × Nat) → List (Tk × Nat) × Nat × Int
  | 0, _, _ => ([], 0, 0)
  | f + 1, i, acc => let a := i + skipM false (s.drop i); let p := tokP (s.drop a)
    if p.1 ≠ 0 then ([], a, p.1) else if p.2.1.k = 0 then (acc ++ [(p.2.1, a)], 0, 0) else toksP s f (a + p.2.2) (acc ++ [(p.2.1, a)])

def Toks (s : List UInt8) : List (Tk × Nat) × Nat × Int := if 2000 < s.length then ([], 0, 12) else toksP s (s.length + 1) 0 []

def tkV (p : Tk × Nat) : AV := .agg (tokC p.1.k p.1.t p.1.n p.2)

theorem unqK_pos : ∀ (l : List UInt8) (n : Nat) (acc : List UInt8) (a : Nat), (unqK l n acc a).2.2 = 0 → a ≤ (unqK l n acc a).2.1
  | [], n, acc, a, h => by simp [unqK] at h
  | c :: r, k + 1, acc, a, h => by rw [unqK] at h ⊢; exact unqK_pos r k acc a h
  | c :: r, 0, acc, a, h => by
    simp only [unqK] at h ⊢
    split
    · rename_i h1; rw [if_pos h1] at h; simp at h
    · rename_i h1; rw [if_neg h1] at h
      split
      · rename_i h2; rw [if_pos h2] at h
        split
        · rename_i h3; rw [if_pos h3] at h; simp at h
        · simp
      · rename_i h2; rw [if_neg h2] at h
        split
        · rename_i h3; rw [if_pos h3] at h
          split
          · rename_i h4; rw [if_pos h4] at h; simp only at h; exact absurd h h4
          · rename_i h4; rw [if_neg h4] at h
            have := unqK_pos r (escP r).2.2 _ _ h
            omega
        · rename_i h3; rw [if_neg h3] at h
          split
          · rename_i h4; rw [if_pos h4] at h; simp at h
          · rename_i h4; rw [if_neg h4] at h
            have := unqK_pos r 0 _ _ h
            omega

theorem unq_pos (c : UInt8) (r : List UInt8) (hq : c = 34) (he : (unq (c :: r)).2.2 = 0) : 1 ≤ (unq (c :: r)).2.1 := by
  rw [unq, if_neg (by simp [hq])] at he ⊢
  exact unqK_pos r 0 [] 1 he

theorem takeWhile_len (p : UInt8 → Bool) (l : List UInt8) : (l.takeWhile p).length ≤ l.length := (List.takeWhile_prefix p).length_le

theorem tokP_len (l : List UInt8) (h : (tokP l).1 = 0) : (tokP l).2.2 ≤ l.length ∧ ((tokP l).2.1.k = 0 → l = []) ∧ (l ≠ [] → 1 ≤ (tokP l).2.2) := by
  cases l with
  | nil => simp [tokP]
  | cons c r =>
    unfold tokP at h ⊢
    simp only at h ⊢
    have h1 : ∀ p : UInt8 → Bool, p c = true → 1 ≤ ((c :: r).takeWhile p).length := by
      intro p hp; rw [List.takeWhile_cons, if_pos hp]; simp
    split
    · rename_i hd
      rw [if_pos hd] at h
      split
      · exact ⟨takeWhile_len _ _, by simp, fun _ => h1 _ hd⟩
      · rename_i hb; rw [if_neg hb] at h; simp at h
    · rename_i hd
      rw [if_neg hd] at h
      split
      · rename_i hq
        rw [if_pos hq] at h
        split
        · rename_i he
          refine ⟨unq_len _, by simp, fun _ => ?_⟩
          have := unq_pos c r hq he
          exact this
        · rename_i he; rw [if_neg he] at h; exact absurd h he
      · rename_i hq
        rw [if_neg hq] at h
        split
        · rename_i hn
          rw [if_pos hn] at h
          split
          · rename_i hb; rw [if_pos hb] at h; simp at h
          · refine ⟨takeWhile_len _ _, ?_, fun _ => h1 _ ?_⟩
            · intro hk
              have : ∀ w : List UInt8, w ≠ [] → nameKind w ≠ 0 := by
                intro w hw
                cases w with
                | nil => exact absurd rfl hw
                | cons x y => simp only [nameKind]; split <;> (try split) <;> decide
              have hi : innerB c = true := by
                simp only [innerB, isInner, smallB, largeB, Bool.or_eq_true] at hn ⊢
                exact hn.elim .inl fun h => .inr (.inl h)
              have := this ((c :: r).takeWhile innerB) (by rw [List.takeWhile_cons, if_pos hi]; simp)
              exact absurd hk this
            · simp only [innerB, isInner, smallB, largeB, Bool.or_eq_true] at hn ⊢
              exact hn.elim .inl fun h => .inr (.inl h)
        · rename_i hn
          rw [if_neg hn] at h
          split
          · split
            · rename_i h2
              refine ⟨?_, by simp, by simp⟩
              have := congrArg List.length h2
              simp at this ⊢
              omega
            · simp
          · rename_i hg
            rw [if_neg hg] at h; simp at h

theorem tokens_call (s : List UInt8) (h : Hp) (c : Nat) (d : List (Nat × List AV)) :
    Does X 11 [.str s] ⟨h, c, d⟩ fun v s' => ∃ o, v = .tuple [.slice o ((Toks s).1.map tkV), .int .i64 ((Toks s).2.1 : Int), .int .i64 (Toks s).2.2] ∧ ∃ h' c', s' = ⟨h', c', d⟩ ∧ Fr h c h' c' [] := by
  refine call_aw b11 rfl rfl rfl ?_; delta b11
  simp -dsimp -implicitDefEqProofs only [go_sem, Nat.reduceAdd, Nat.reduceEqDiff, reduceIte, reduceCtorEq, Nat.reduceLeDiff, Nat.reduceLT, Nat.reduceSub, Int.reduceEq, Int.reduceLT]
  refine CondV_split (fun hc => ?_) fun hc => ?_
  · have hl : 2000 < s.length := by simp at hc; omega
    simp -dsimp -implicitDefEqProofs only [go_sem, Nat.reduceAdd, Nat.reduceEqDiff, reduceIte, reduceCtorEq, Nat.reduceLeDiff, Nat.reduceLT, Nat.reduceSub, Int.reduceEq, Int.reduceLT]
    rw [Toks, if_pos hl]
    exact ⟨_, rfl, _, _, rfl, Fr.refl _ _ _⟩
  · have hl : ¬ 2000 < s.length := by simp at hc; omega
    rw [Toks, if_neg hl]
    simp -dsimp -implicitDefEqProofs only [go_sem, Nat.reduceAdd, Nat.reduceEqDiff, reduceIte, reduceCtorEq, Nat.reduceLeDiff, Nat.reduceLT, Nat.reduceSub, Int.reduceEq, Int.reduceLT, fillV, boxV]
    let I : Nat → AEnv → ASt → Prop := fun m e st => ∃ (j : Nat) (acc : List (Tk × Nat)) (i : Option Nat) (H : Hp) (C : Nat), s.length + 1 - j ≤ m ∧ j ≤ s.length ∧ acc.length ≤ j ∧ toksP s m j acc = toksP s (s.length + 1) 0 [] ∧ Fr h c H C [] ∧ OwnH H 4 i (acc.map tkV) ∧ (∀ k, i = some k → c < k ∧ k < C) ∧ H c = some (rdr s j) ∧ c < C ∧
      e.get 5 = .ptr c 0 ∧ e.get 6 = ownV i (acc.map tkV) ∧ st = ⟨H, C, []⟩
    refine LoopK_rule I (s.length + 1) ⟨0, [], none, _, _, Nat.le_refl _, Nat.zero_le _, by simp, rfl, (Fr.refl _ _ _).upd _ (.inr (Nat.le_refl _)) (Nat.le_succ _), rfl, by simp, upd_same _ _ _, Nat.lt_succ_self _, rfl, rfl, rfl⟩ ?_
    rintro f e st ⟨j, acc, i, H, C, hf, hj, hacc, hst, hfr, how, hi, hr, hcC, g5, g6, rfl⟩
    obtain ⟨f, rfl⟩ : ∃ g, f = g + 1 := ⟨f - 1, by omega⟩
    rw [toksP] at hst
    generalize ha : j + skipM false (s.drop j) = a at hst
    simp -dsimp -implicitDefEqProofs only [go_sem, Nat.reduceAdd, Nat.reduceEqDiff, reduceIte, reduceCtorEq, Nat.reduceLeDiff, Nat.reduceLT, Nat.reduceSub, Int.reduceEq, Int.reduceLT, preH, g5, g6]
    have hcC' : c ≠ C := by omega
    refine DoesK_of (next_call s (by omega) c j hj _ _ _ (by omega) (by rw [upd_ne _ _ hcC']; exact hr) a ha.symm) ?_
    rintro v s' ⟨k, w, n, H1, C1, rfl, rfl, f1, hres⟩
    have hz : H1 C = some (.cells zeroT) := (f1.at (Nat.lt_succ_self _) (by simp; omega)).trans (upd_same _ _ _)
    have hal : a ≤ s.length := by
      have := skipM_le false (s.drop j)
      rw [List.length_drop] at this; omega
    generalize hp : tokP (s.drop a) = p at *
    have htl := tokP_len (s.drop a)
    rw [hp, List.length_drop] at htl
    obtain ⟨p1, ⟨pk, pt, pn⟩, pl⟩ := p
    simp only at hst hres htl
    by_cases he : p1 = 0
    · rw [if_neg (by simp [he])] at hst
      obtain ⟨rfl, rfl, rfl, hr1⟩ := hres he
      subst he
      obtain ⟨hl1, hl2, hl3⟩ := htl rfl
      have hT : tokC k w n a = [.int .i64 k, .str w, .int .i64 n, .int .i64 (a : Int)] := rfl
      have hH2 : ∀ k', i = some k' → upd H1 C (.cells (tokC k w n a)) k' = H k' := by
        intro k' hk
        obtain ⟨h1, h2⟩ := hi k' hk
        rw [upd_ne _ _ (by omega), f1.at (by omega) (by simp; omega), upd_ne _ _ (by omega)]
      have happ : appK C1 0 4 40 ⟨upd H1 C (.cells [.int .i64 k, .str w, .int .i64 n, .int .i64 (a : Int)]), C1 + 1, []⟩ (ownV i (acc.map tkV)) (.slice .full [.agg [.int .i64 k, .str w, .int .i64 n, .int .i64 (a : Int)]]) = some (ownV (some (i.getD C1)) ((acc ++ [((⟨k, w, n⟩ : Tk), a)]).map tkV), ⟨upd (upd H1 C (.cells [.int .i64 k, .str w, .int .i64 n, .int .i64 (a : Int)])) (i.getD C1) (.arr (acc.length + 1) 4), C1 + 1, []⟩) := by
        have := @appK_one C1 0 4 40 (upd H1 C (.cells (tokC k w n a))) (C1 + 1) [] i (acc.map tkV) (tkV ((⟨k, w, n⟩ : Tk), a)) .full (how.keep hH2) rfl (by simp; omega)
        simp only [List.length_map, Nat.add_zero] at this
        rw [List.map_append]
        exact this
      have hCC1 := f1.le
      have hci : c < i.getD C1 ∧ i.getD C1 < C1 + 1 := by
        cases hi' : i with
        | none => simp; omega
        | some k' => have := hi k' hi'; simp; omega
      have hc2 : upd (upd H1 C (.cells [.int .i64 k, .str w, .int .i64 n, .int .i64 (a : Int)])) (i.getD C1) (.arr (acc.length + 1) 4) C = some (.cells [.int .i64 k, .str w, .int .i64 n, .int .i64 (a : Int)]) := by
        rw [upd_ne, upd_same]
        cases hi' : i with
        | none => simp; omega
        | some k' => have := hi k' hi'; simp; omega
      have hfr2 : Fr h c (upd (upd H1 C (.cells [.int .i64 k, .str w, .int .i64 n, .int .i64 (a : Int)])) (i.getD C1) (.arr (acc.length + 1) 4)) (C1 + 1) [] :=
        ((((hfr.upd _ (.inr (Nat.le_of_lt hcC)) (Nat.le_succ _)).trans f1 (by simp)).upd _ (.inr (Nat.le_of_lt hcC)) (Nat.le_refl _)).upd _ (.inr (by omega)) (Nat.le_succ _))
      simp -dsimp -implicitDefEqProofs only [go_sem, Nat.reduceAdd, Nat.reduceEqDiff, reduceIte, reduceCtorEq, Nat.reduceLeDiff, Nat.reduceLT, Nat.reduceSub, Int.reduceEq, Int.reduceLT, OpK_alloc, hz, zeroT, tokC, ldCells, partsV, g5, g6, happ, hc2]
      refine CondV_split (fun hq => ?_) fun hq => ?_
      · have hk : k = 0 := by simpa using hq
        rw [if_pos hk] at hst
        simp -dsimp -implicitDefEqProofs only [go_sem, Nat.reduceAdd, Nat.reduceEqDiff, reduceIte, reduceCtorEq, Nat.reduceLeDiff, Nat.reduceLT, Nat.reduceSub, Int.reduceEq, Int.reduceLT, g5, ownV]
        rw [← hst]
        exact ⟨_, rfl, _, _, rfl, hfr2⟩
      · have hk : k ≠ 0 := by simpa using hq
        rw [if_neg hk] at hst
        simp -dsimp -implicitDefEqProofs only [go_sem, Nat.reduceAdd, Nat.reduceEqDiff, reduceIte, reduceCtorEq, Nat.reduceLeDiff, Nat.reduceLT, Nat.reduceSub, Int.reduceEq, Int.reduceLT, g5]
        have hne : s.drop a ≠ [] := by
          intro e0
          rw [e0] at hp
          simp only [tokP, Prod.mk.injEq, Tk.mk.injEq] at hp
          exact hk hp.2.1.1.symm
        have h1pl := hl3 hne
        have haj : j ≤ a := by omega
        refine Again.of f (by omega) ⟨a + pl, acc ++ [(⟨k, w, n⟩, a)], some (i.getD C1), _, _, by omega, by omega, by simp; omega, hst, hfr2, ?_, ?_, ?_, by omega, g5, rfl, rfl⟩
        · simp [OwnH, upd_same]
        · rintro k' hk'; injection hk' with hk'; subst hk'; exact hci
        · rw [upd_ne _ _ (by omega), upd_ne _ _ hcC', hr1]
    · rw [if_pos he] at hst
      simp -dsimp -implicitDefEqProofs only [go_sem, Nat.reduceAdd, Nat.reduceEqDiff, reduceIte, reduceCtorEq, Nat.reduceLeDiff, Nat.reduceLT, Nat.reduceSub, Int.reduceEq, Int.reduceLT, OpK_alloc, hz, zeroT, tokC, he]
      rw [← hst]
      exact ⟨_, rfl, _, _, rfl, ((hfr.upd _ (.inr (Nat.le_of_lt hcC)) (Nat.le_succ _)).trans f1 (by simp)).upd _ (.inr (Nat.le_of_lt hcC)) (Nat.le_refl _)⟩

end Go.Proofs.YtggdpckdlcngpaaDoor

set_option linter.unusedVariables false
set_option linter.unusedSimpArgs false
namespace Go.Proofs.YtggdpckdlcngpaaDoor
open Abs Go.RowKit

theorem idx_slice_0 (sz : Nat) (k : IntKind) (o : Own) (es : List AV) : idxV sz (.int k 0) (.slice o es) = elemA sz es[0]? := idx_slice sz k 0 o es
theorem idx_slice_1 (sz : Nat) (k : IntKind) (o : Own) (es : List AV) : idxV sz (.int k 1) (.slice o es) = elemA sz es[1]? := idx_slice sz k 1 o es
theorem idx_slice_2 (sz : Nat) (k : IntKind) (o : Own) (es : List AV) : idxV sz (.int k 2) (.slice o es) = elemA sz es[2]? := idx_slice sz k 2 o es
theorem idx_slice_3 (sz : Nat) (k : IntKind) (o : Own) (es : List AV) : idxV sz (.int k 3) (.slice o es) = elemA sz es[3]? := idx_slice sz k 3 o es

theorem toks_1 : Toks [120, 49, 45, 62, 34, 97, 34] = ([(⟨3, [120, 49], 0⟩, 0), (⟨5, [45, 62], 0⟩, 2), (⟨2, [97], 0⟩, 4), (⟨0, [], 0⟩, 7)], 0, 0) := by kernel_rfl
theorem toks_2 : Toks [65, 32, 98] = ([(⟨4, [65], 0⟩, 0), (⟨3, [98], 0⟩, 2), (⟨0, [], 0⟩, 3)], 0, 0) := by kernel_rfl
theorem toks_3 : Toks [36] = ([], 0, 10) := by kernel_rfl

theorem tokens_is {s : List UInt8} {l : List (Tk × Nat)} {a : Nat} {e : Int} (hT : Toks s = (l, a, e)) (h : Hp) (c : Nat) (d : List (Nat × List AV)) :
    Does X 11 [.str s] ⟨h, c, d⟩ fun v s' => ∃ o, v = .tuple [.slice o (l.map tkV), .int .i64 (a : Int), .int .i64 e] ∧ ∃ h' c', s' = ⟨h', c', d⟩ ∧ Fr h c h' c' [] := by
  have := tokens_call s h c d
  rw [hT] at this
  exact this

theorem lives_call (h : Hp) (c : Nat) (d : List (Nat × List AV)) : Does X 14 [] ⟨h, c, d⟩ fun v s' => v = .bool true ∧ ∃ h' c', s' = ⟨h', c', d⟩ ∧ Fr h c h' c' [] := by
  refine call_aw b14 rfl rfl rfl ?_; delta b14
  simp -dsimp -implicitDefEqProofs only [go_sem, Nat.reduceAdd, Nat.reduceEqDiff, reduceIte, reduceCtorEq, Nat.reduceLeDiff, Nat.reduceLT, Nat.reduceSub, Int.reduceEq, Int.reduceLT]
  refine DoesK_of (tokens_is toks_1 _ _ _) ?_
  rintro v s' ⟨o1, rfl, h1, c1, rfl, f1⟩
  simp -dsimp -implicitDefEqProofs only [go_sem, Nat.reduceAdd, Nat.reduceEqDiff, reduceIte, reduceCtorEq, Nat.reduceLeDiff, Nat.reduceLT, Nat.reduceSub, Int.reduceEq, Int.reduceLT]
  refine DoesK_of (tokens_is toks_2 _ _ _) ?_
  rintro v s' ⟨o2, rfl, h2, c2, rfl, f2⟩
  simp -dsimp -implicitDefEqProofs only [go_sem, Nat.reduceAdd, Nat.reduceEqDiff, reduceIte, reduceCtorEq, Nat.reduceLeDiff, Nat.reduceLT, Nat.reduceSub, Int.reduceEq, Int.reduceLT]
  refine DoesK_of (tokens_is toks_3 _ _ _) ?_
  rintro v s' ⟨o3, rfl, h3, c3, rfl, f3⟩
  simp -dsimp -implicitDefEqProofs only [go_sem, Nat.reduceAdd, Nat.reduceEqDiff, reduceIte, reduceCtorEq, Nat.reduceLeDiff, Nat.reduceLT, Nat.reduceSub, Int.reduceEq, Int.reduceLT, tkV, tokC, elemA, idx_slice_0, idx_slice_1, idx_slice_2, idx_slice_3, Int.cast_ofNat_Int]
  exact ⟨_, _, rfl, (f1.trans f2 (by simp)).trans f3 (by simp)⟩

end Go.Proofs.YtggdpckdlcngpaaDoor

set_option linter.unusedVariables false
set_option linter.unusedSimpArgs false
namespace Go.Proofs.YtggdpckdlcngpaaDoor
open Abs Go.RowKit

def refKeys : List (List UInt8) := [[108, 101, 116], [114, 101, 99], [105, 110], [102, 117, 110], [105, 102], [116, 104, 101, 110], [101, 108, 115, 101], [109, 97, 116, 99, 104], [119, 105, 116, 104], [101, 110, 100], [116, 114, 121], [112, 114, 105, 110, 116], [114, 97, 105, 115, 101], [115, 112, 97, 119, 110], [97, 116, 111, 109, 105, 99, 97, 108, 108, 121], [114, 101, 116, 114, 121], [111, 114, 101, 108, 115, 101], [116, 118, 97, 114], [114, 101, 97, 100], [119, 114, 105, 116, 101], [116, 121, 112, 101], [111, 102], [100, 111]]

theorem keys_in : (refKeys.all fun w => Lib.contains keysText ([32] ++ w ++ [32]) && !Lib.contains w [32] && decide (w ≠ [])) = true := by kernel_rfl
theorem keys_out : ((List.range keysText.length).all fun i => match keysText.drop i with | [] => true | b :: l => !(b == 32) || decide (l.takeWhile (· != 32) = []) || refKeys.contains (l.takeWhile (· != 32))) = true := by kernel_rfl

theorem contains_one : ∀ (s : List UInt8) (b : UInt8), Lib.index s [b] = -1 → b ∉ s
  | [], b, _ => by simp
  | c :: l, b, h => by
    rw [Lib.index] at h
    split at h
    · simp at h
    · rename_i hp
      split at h
      · rename_i h1
        have h2 : Lib.index l [b] = -1 := by simpa using h1
        have := contains_one l b h2
        simp [List.isPrefixOf] at hp
        simp; exact ⟨hp, this⟩
      · rename_i h1
        have := Lib.index_spec l [b]
        rcases this with ⟨h2, _⟩ | ⟨i, h2, _⟩
        · rw [h2] at h1; simp at h1
        · rw [h2] at h; omega

theorem takeWhile_blank : ∀ (s r : List UInt8), (32 : UInt8) ∉ s → (s ++ 32 :: r).takeWhile (· != 32) = s
  | [], r, _ => by simp
  | c :: l, r, h => by
    simp at h
    rw [List.cons_append, List.takeWhile_cons, if_pos (by simp; exact fun e => h.1 e.symm), takeWhile_blank l r h.2]

theorem key_same (s : List UInt8) : keyP s = decide (s ∈ refKeys) := by
  have hin := List.all_eq_true.1 keys_in
  by_cases hs : s ∈ refKeys
  · have := hin s hs
    simp only [Bool.and_eq_true] at this
    simp only [keyP, hs, decide_true, this.1.1, this.1.2, this.2, Bool.and_self]
  · rw [decide_eq_false hs]
    cases hk : keyP s with
    | false => rfl
    | true =>
      exfalso
      simp only [keyP, Bool.and_eq_true, decide_eq_true_eq, Bool.not_eq_true'] at hk
      obtain ⟨h1, h2, h3⟩ := hk
      have hb : (32 : UInt8) ∉ s := by
        refine contains_one s 32 ?_
        rcases Lib.index_spec s [32] with ⟨h, _⟩ | ⟨i, h, _⟩
        · exact h
        · simp [Lib.contains, h] at h2
      rcases Lib.index_spec keysText ([32] ++ s ++ [32]) with ⟨h, _⟩ | ⟨i, h, hi, ho, _⟩
      · rw [Lib.contains, h] at h3; simp at h3
      · have ho : ([32] ++ s ++ [32]).isPrefixOf (keysText.drop i) = true := ho
        obtain ⟨r, hr⟩ := List.isPrefixOf_iff_prefix.1 ho
        have hil : i < keysText.length := by
          rcases Nat.lt_or_ge i keysText.length with h' | h'
          · exact h'
          · rw [List.drop_eq_nil_of_le h'] at hr; simp at hr
        have := List.all_eq_true.1 keys_out i (List.mem_range.2 hil)
        rw [← hr] at this
        have e : [32] ++ s ++ [32] ++ r = 32 :: (s ++ 32 :: r) := by simp
        rw [e] at this
        simp only [takeWhile_blank s r hb] at this
        simp [h1, hs] at this

theorem rkey_call (s : List UInt8) (st : ASt) : Does X 16 [.str s] st fun v s' => v = .bool (keyP s) ∧ s' = st := by
  obtain ⟨h, c, d⟩ := st
  refine call_aw b16 rfl rfl rfl ?_; delta b16
  have hl : (refKeys.map AV.str).length = 23 := rfl
  have hp : partsV (ev [(2, .bool false), (0, .str s)]) 1 (refKeys.map fun w => .val (.str w)) = some (refKeys.map AV.str) := by kernel_rfl
  simp only [refKeys, List.map_cons, List.map_nil] at hp
  simp -dsimp -implicitDefEqProofs only [go_sem, Nat.reduceAdd, Nat.reduceEqDiff, reduceIte, reduceCtorEq, Nat.reduceLeDiff, Nat.reduceLT, Nat.reduceSub, Int.reduceEq, Int.reduceLT, hp]
  have hW : (AV.slice .full [AV.str [108, 101, 116], .str [114, 101, 99], .str [105, 110], .str [102, 117, 110], .str [105, 102], .str [116, 104, 101, 110], .str [101, 108, 115, 101], .str [109, 97, 116, 99, 104], .str [119, 105, 116, 104], .str [101, 110, 100], .str [116, 114, 121], .str [112, 114, 105, 110, 116], .str [114, 97, 105, 115, 101], .str [115, 112, 97, 119, 110], .str [97, 116, 111, 109, 105, 99, 97, 108, 108, 121], .str [114, 101, 116, 114, 121], .str [111, 114, 101, 108, 115, 101], .str [116, 118, 97, 114], .str [114, 101, 97, 100], .str [119, 114, 105, 116, 101], .str [116, 121, 112, 101], .str [111, 102], .str [100, 111]]) = .slice .full (refKeys.map AV.str) := rfl
  rw [hW]
  let I : Nat → AEnv → ASt → Prop := fun m e st => ∃ j : Nat, m = 23 - j ∧ j ≤ 23 ∧ (∀ i, i < j → refKeys[i]? ≠ some s) ∧ e.get 0 = .str s ∧ e.get 3 = .slice .full (refKeys.map AV.str) ∧ e.get 4 = .int .i64 (j : Int) ∧ st = ⟨h, c, []⟩
  refine LoopK_rule I 23 ⟨0, rfl, Nat.zero_le _, fun i hi => by omega, rfl, rfl, rfl, rfl⟩ ?_
  rintro m e st ⟨j, rfl, hj, hno, g0, g3, g4, rfl⟩
  simp -dsimp -implicitDefEqProofs only [go_sem, Nat.reduceAdd, Nat.reduceEqDiff, reduceIte, reduceCtorEq, Nat.reduceLeDiff, Nat.reduceLT, Nat.reduceSub, Int.reduceEq, Int.reduceLT, g0, g3, g4, hl]
  refine CondV_split (fun hc => ?_) fun hc => ?_
  · have hj' : j < 23 := by simp at hc; omega
    obtain ⟨w, hg⟩ : ∃ w, refKeys[j]? = some w := ⟨_, List.getElem?_eq_getElem (show j < refKeys.length from hj')⟩
    simp -dsimp -implicitDefEqProofs only [go_sem, Nat.reduceAdd, Nat.reduceEqDiff, reduceIte, reduceCtorEq, Nat.reduceLeDiff, Nat.reduceLT, Nat.reduceSub, Int.reduceEq, Int.reduceLT, g0, g3, g4, hg, elemA]
    refine CondV_split (fun hq => ?_) fun hq => ?_
    · have hx : w = s := by simpa using hq
      simp -dsimp -implicitDefEqProofs only [go_sem, Nat.reduceAdd, Nat.reduceEqDiff, reduceIte, reduceCtorEq, Nat.reduceLeDiff, Nat.reduceLT, Nat.reduceSub, Int.reduceEq, Int.reduceLT]
      rw [key_same, decide_eq_true (List.mem_of_getElem? (hg.trans (by rw [hx])))]
    · have hx : w ≠ s := by simpa using hq
      simp -dsimp -implicitDefEqProofs only [go_sem, Nat.reduceAdd, Nat.reduceEqDiff, reduceIte, reduceCtorEq, Nat.reduceLeDiff, Nat.reduceLT, Nat.reduceSub, Int.reduceEq, Int.reduceLT, g0, g3, g4]
      refine Again.of (23 - (j + 1)) (by omega) ⟨j + 1, rfl, by omega, fun i hi => ?_, g0, g3, ?_, rfl⟩
      · rcases Nat.lt_or_ge i j with h' | h'
        · exact hno i h'
        · obtain rfl : i = j := by omega
          rw [hg]; simpa using hx
      · show AV.int .i64 (IntKind.wrap .i64 ((j : Int) + 1)) = _
        rw [wrap_i64 (by omega) (by omega)]; rfl
  · have hj' : j = 23 := by simp at hc; omega
    simp -dsimp -implicitDefEqProofs only [go_sem, Nat.reduceAdd, Nat.reduceEqDiff, reduceIte, reduceCtorEq, Nat.reduceLeDiff, Nat.reduceLT, Nat.reduceSub, Int.reduceEq, Int.reduceLT]
    rw [key_same, decide_eq_false]
    intro hm
    obtain ⟨i, hi⟩ := List.mem_iff_getElem?.1 hm
    have hil : i < refKeys.length := by
      rcases Nat.lt_or_ge i refKeys.length with h' | h'
      · exact h'
      · rw [List.getElem?_eq_none h'] at hi; cases hi
    exact hno i (by rw [hj']; exact hil) hi

theorem few_call (s : List UInt8) (st : ASt) : Does X 10 [.str s] st fun v s' => v = .str (s.take 300) ∧ s' = st := by
  obtain ⟨h, c, d⟩ := st
  refine call_aw b10 rfl rfl rfl ?_; delta b10
  simp -dsimp -implicitDefEqProofs only [go_sem, Nat.reduceAdd, Nat.reduceEqDiff, reduceIte, reduceCtorEq, Nat.reduceLeDiff, Nat.reduceLT, Nat.reduceSub, Int.reduceEq, Int.reduceLT]
  refine CondV_split (fun hc => ?_) fun hc => ?_
  · have hl : 300 ≤ s.length := by simp at hc; omega
    have hcut : cutStr none (some (.int .i64 300)) (.str s) = some (.str (s.take 300)) := by
      have := cut_hi .i64 300 s
      rw [if_pos hl] at this
      exact this
    simp -dsimp -implicitDefEqProofs only [go_sem, Nat.reduceAdd, Nat.reduceEqDiff, reduceIte, reduceCtorEq, Nat.reduceLeDiff, Nat.reduceLT, Nat.reduceSub, Int.reduceEq, Int.reduceLT, hcut]
  · have hl : s.length ≤ 300 := by simp at hc; omega
    simp -dsimp -implicitDefEqProofs only [go_sem, Nat.reduceAdd, Nat.reduceEqDiff, reduceIte, reduceCtorEq, Nat.reduceLeDiff, Nat.reduceLT, Nat.reduceSub, Int.reduceEq, Int.reduceLT]
    rw [List.take_of_length_le hl]

theorem keysLaw (s : List UInt8) : Does X 4 [.str s] s0 fun v _ => v = .bool true := by
  refine call_aw b4 rfl rfl rfl ?_; delta b4
  simp -dsimp -implicitDefEqProofs only [go_sem, Nat.reduceAdd, Nat.reduceEqDiff, reduceIte, reduceCtorEq, Nat.reduceLeDiff, Nat.reduceLT, Nat.reduceSub, Int.reduceEq, Int.reduceLT]
  refine DoesK_of (few_call _ _) ?_
  rintro v s' ⟨rfl, rfl⟩
  simp -dsimp -implicitDefEqProofs only [go_sem, Nat.reduceAdd, Nat.reduceEqDiff, reduceIte, reduceCtorEq, Nat.reduceLeDiff, Nat.reduceLT, Nat.reduceSub, Int.reduceEq, Int.reduceLT]
  refine DoesK_of (key_call _ (by simp; omega) _) ?_
  rintro v s' ⟨rfl, rfl⟩
  simp -dsimp -implicitDefEqProofs only [go_sem, Nat.reduceAdd, Nat.reduceEqDiff, reduceIte, reduceCtorEq, Nat.reduceLeDiff, Nat.reduceLT, Nat.reduceSub, Int.reduceEq, Int.reduceLT]
  refine DoesK_of (rkey_call _ _) ?_
  rintro v s' ⟨rfl, rfl⟩
  simp -dsimp -implicitDefEqProofs only [go_sem, Nat.reduceAdd, Nat.reduceEqDiff, reduceIte, reduceCtorEq, Nat.reduceLeDiff, Nat.reduceLT, Nat.reduceSub, Int.reduceEq, Int.reduceLT, eqKey, eqT, CondV_true]
  refine DoesK_of (lives_call _ _ _) ?_
  rintro v s' ⟨rfl, h', c', rfl, f⟩
  simp -dsimp -implicitDefEqProofs only [go_sem, Nat.reduceAdd, Nat.reduceEqDiff, reduceIte, reduceCtorEq, Nat.reduceLeDiff, Nat.reduceLT, Nat.reduceSub, Int.reduceEq, Int.reduceLT]

end Go.Proofs.YtggdpckdlcngpaaDoor
