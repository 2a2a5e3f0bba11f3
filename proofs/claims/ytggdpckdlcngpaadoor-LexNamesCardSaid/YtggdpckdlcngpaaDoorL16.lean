/- All tokens. -/
import Derived.Test.YtggdpckdlcngpaaDoorL15
set_option linter.unusedVariables false
set_option linter.unusedSimpArgs false
namespace Go.Proofs.YtggdpckdlcngpaaDoor
open Abs Go.RowKit

/-- The tokens from a place on: they, a place, an error. -/
def toksP (s : List UInt8) : Nat → Nat → List (Tk × Nat) → List (Tk × Nat) × Nat × Int
  | 0, _, _ => ([], 0, 0)
  | f + 1, i, acc => let a := i + skipM false (s.drop i); let p := tokP (s.drop a)
    if p.1 ≠ 0 then ([], a, p.1) else if p.2.1.k = 0 then (acc ++ [(p.2.1, a)], 0, 0) else toksP s f (a + p.2.2) (acc ++ [(p.2.1, a)])

def Toks (s : List UInt8) : List (Tk × Nat) × Nat × Int := if 2000 < s.length then ([], 0, 12) else toksP s (s.length + 1) 0 []

def tkV (p : Tk × Nat) : AV := .agg (tokC p.1.k p.1.t p.1.n p.2)

theorem unqK_pos : ∀ (l : List UInt8) (n : Nat) (acc : List UInt8) (a : Nat), (unqK l n acc a).2.2 = 0 → a ≤ (unqK l n acc a).2.1
  | [], n, acc, a, h => by simp [unqK] at h
  | c :: r, k + 1, acc, a, h => by rw [unqK] at h ⊢; exact unqK_pos r k acc a h
  | c :: r, 0, acc, a, h => by
    simp only [unqK] at h ⊢
    split
    · rename_i h1; rw [if_pos h1] at h; simp at h
    · rename_i h1; rw [if_neg h1] at h
      split
      · rename_i h2; rw [if_pos h2] at h
        split
        · rename_i h3; rw [if_pos h3] at h; simp at h
        · simp
      · rename_i h2; rw [if_neg h2] at h
        split
        · rename_i h3; rw [if_pos h3] at h
          split
          · rename_i h4; rw [if_pos h4] at h; simp only at h; exact absurd h h4
          · rename_i h4; rw [if_neg h4] at h
            have := unqK_pos r (escP r).2.2 _ _ h
            omega
        · rename_i h3; rw [if_neg h3] at h
          split
          · rename_i h4; rw [if_pos h4] at h; simp at h
          · rename_i h4; rw [if_neg h4] at h
            have := unqK_pos r 0 _ _ h
            omega

theorem unq_pos (c : UInt8) (r : List UInt8) (hq : c = 34) (he : (unq (c :: r)).2.2 = 0) : 1 ≤ (unq (c :: r)).2.1 := by
  rw [unq, if_neg (by simp [hq])] at he ⊢
  exact unqK_pos r 0 [] 1 he

theorem takeWhile_len (p : UInt8 → Bool) (l : List UInt8) : (l.takeWhile p).length ≤ l.length := (List.takeWhile_prefix p).length_le

theorem tokP_len (l : List UInt8) (h : (tokP l).1 = 0) : (tokP l).2.2 ≤ l.length ∧ ((tokP l).2.1.k = 0 → l = []) ∧ (l ≠ [] → 1 ≤ (tokP l).2.2) := by
  cases l with
  | nil => simp [tokP]
  | cons c r =>
    unfold tokP at h ⊢
    simp only at h ⊢
    have h1 : ∀ p : UInt8 → Bool, p c = true → 1 ≤ ((c :: r).takeWhile p).length := by
      intro p hp; rw [List.takeWhile_cons, if_pos hp]; simp
    split
    · rename_i hd
      rw [if_pos hd] at h
      split
      · exact ⟨takeWhile_len _ _, by simp, fun _ => h1 _ hd⟩
      · rename_i hb; rw [if_neg hb] at h; simp at h
    · rename_i hd
      rw [if_neg hd] at h
      split
      · rename_i hq
        rw [if_pos hq] at h
        split
        · rename_i he
          refine ⟨unq_len _, by simp, fun _ => ?_⟩
          have := unq_pos c r hq he
          exact this
        · rename_i he; rw [if_neg he] at h; exact absurd h he
      · rename_i hq
        rw [if_neg hq] at h
        split
        · rename_i hn
          rw [if_pos hn] at h
          split
          · rename_i hb; rw [if_pos hb] at h; simp at h
          · refine ⟨takeWhile_len _ _, ?_, fun _ => h1 _ ?_⟩
            · intro hk
              have : ∀ w : List UInt8, w ≠ [] → nameKind w ≠ 0 := by
                intro w hw
                cases w with
                | nil => exact absurd rfl hw
                | cons x y => simp only [nameKind]; split <;> (try split) <;> decide
              have hi : innerB c = true := by
                simp only [innerB, isInner, smallB, largeB, Bool.or_eq_true] at hn ⊢
                exact hn.elim .inl fun h => .inr (.inl h)
              have := this ((c :: r).takeWhile innerB) (by rw [List.takeWhile_cons, if_pos hi]; simp)
              exact absurd hk this
            · simp only [innerB, isInner, smallB, largeB, Bool.or_eq_true] at hn ⊢
              exact hn.elim .inl fun h => .inr (.inl h)
        · rename_i hn
          rw [if_neg hn] at h
          split
          · split
            · rename_i h2
              refine ⟨?_, by simp, by simp⟩
              have := congrArg List.length h2
              simp at this ⊢
              omega
            · simp
          · rename_i hg
            rw [if_neg hg] at h; simp at h

theorem tokens_call (s : List UInt8) (h : Hp) (c : Nat) (d : List (Nat × List AV)) :
    Does X 11 [.str s] ⟨h, c, d⟩ fun v s' => ∃ o, v = .tuple [.slice o ((Toks s).1.map tkV), .int .i64 ((Toks s).2.1 : Int), .int .i64 (Toks s).2.2] ∧ ∃ h' c', s' = ⟨h', c', d⟩ ∧ Fr h c h' c' [] := by
  refine call_aw b11 rfl rfl rfl ?_; delta b11
  simp -dsimp -implicitDefEqProofs only [go_sem, Nat.reduceAdd, Nat.reduceEqDiff, reduceIte, reduceCtorEq, Nat.reduceLeDiff, Nat.reduceLT, Nat.reduceSub, Int.reduceEq, Int.reduceLT]
  refine CondV_split (fun hc => ?_) fun hc => ?_
  · have hl : 2000 < s.length := by simp at hc; omega
    simp -dsimp -implicitDefEqProofs only [go_sem, Nat.reduceAdd, Nat.reduceEqDiff, reduceIte, reduceCtorEq, Nat.reduceLeDiff, Nat.reduceLT, Nat.reduceSub, Int.reduceEq, Int.reduceLT]
    rw [Toks, if_pos hl]
    exact ⟨_, rfl, _, _, rfl, Fr.refl _ _ _⟩
  · have hl : ¬ 2000 < s.length := by simp at hc; omega
    rw [Toks, if_neg hl]
    simp -dsimp -implicitDefEqProofs only [go_sem, Nat.reduceAdd, Nat.reduceEqDiff, reduceIte, reduceCtorEq, Nat.reduceLeDiff, Nat.reduceLT, Nat.reduceSub, Int.reduceEq, Int.reduceLT, fillV, boxV]
    let I : Nat → AEnv → ASt → Prop := fun m e st => ∃ (j : Nat) (acc : List (Tk × Nat)) (i : Option Nat) (H : Hp) (C : Nat), s.length + 1 - j ≤ m ∧ j ≤ s.length ∧ acc.length ≤ j ∧ toksP s m j acc = toksP s (s.length + 1) 0 [] ∧ Fr h c H C [] ∧ OwnH H 4 i (acc.map tkV) ∧ (∀ k, i = some k → c < k ∧ k < C) ∧ H c = some (rdr s j) ∧ c < C ∧
      e.get 5 = .ptr c 0 ∧ e.get 6 = ownV i (acc.map tkV) ∧ st = ⟨H, C, []⟩
    refine LoopK_rule I (s.length + 1) ⟨0, [], none, _, _, Nat.le_refl _, Nat.zero_le _, by simp, rfl, (Fr.refl _ _ _).upd _ (.inr (Nat.le_refl _)) (Nat.le_succ _), rfl, by simp, upd_same _ _ _, Nat.lt_succ_self _, rfl, rfl, rfl⟩ ?_
    rintro f e st ⟨j, acc, i, H, C, hf, hj, hacc, hst, hfr, how, hi, hr, hcC, g5, g6, rfl⟩
    obtain ⟨f, rfl⟩ : ∃ g, f = g + 1 := ⟨f - 1, by omega⟩
    rw [toksP] at hst
    generalize ha : j + skipM false (s.drop j) = a at hst
    simp -dsimp -implicitDefEqProofs only [go_sem, Nat.reduceAdd, Nat.reduceEqDiff, reduceIte, reduceCtorEq, Nat.reduceLeDiff, Nat.reduceLT, Nat.reduceSub, Int.reduceEq, Int.reduceLT, preH, g5, g6]
    have hcC' : c ≠ C := by omega
    refine DoesK_of (next_call s (by omega) c j hj _ _ _ (by omega) (by rw [upd_ne _ _ hcC']; exact hr) a ha.symm) ?_
    rintro v s' ⟨k, w, n, H1, C1, rfl, rfl, f1, hres⟩
    have hz : H1 C = some (.cells zeroT) := (f1.at (Nat.lt_succ_self _) (by simp; omega)).trans (upd_same _ _ _)
    have hal : a ≤ s.length := by
      have := skipM_le false (s.drop j)
      rw [List.length_drop] at this; omega
    generalize hp : tokP (s.drop a) = p at *
    have htl := tokP_len (s.drop a)
    rw [hp, List.length_drop] at htl
    obtain ⟨p1, ⟨pk, pt, pn⟩, pl⟩ := p
    simp only at hst hres htl
    by_cases he : p1 = 0
    · rw [if_neg (by simp [he])] at hst
      obtain ⟨rfl, rfl, rfl, hr1⟩ := hres he
      subst he
      obtain ⟨hl1, hl2, hl3⟩ := htl rfl
      have hT : tokC k w n a = [.int .i64 k, .str w, .int .i64 n, .int .i64 (a : Int)] := rfl
      have hH2 : ∀ k', i = some k' → upd H1 C (.cells (tokC k w n a)) k' = H k' := by
        intro k' hk
        obtain ⟨h1, h2⟩ := hi k' hk
        rw [upd_ne _ _ (by omega), f1.at (by omega) (by simp; omega), upd_ne _ _ (by omega)]
      have happ : appK C1 0 4 40 ⟨upd H1 C (.cells [.int .i64 k, .str w, .int .i64 n, .int .i64 (a : Int)]), C1 + 1, []⟩ (ownV i (acc.map tkV)) (.slice .full [.agg [.int .i64 k, .str w, .int .i64 n, .int .i64 (a : Int)]]) = some (ownV (some (i.getD C1)) ((acc ++ [((⟨k, w, n⟩ : Tk), a)]).map tkV), ⟨upd (upd H1 C (.cells [.int .i64 k, .str w, .int .i64 n, .int .i64 (a : Int)])) (i.getD C1) (.arr (acc.length + 1) 4), C1 + 1, []⟩) := by
        have := @appK_one C1 0 4 40 (upd H1 C (.cells (tokC k w n a))) (C1 + 1) [] i (acc.map tkV) (tkV ((⟨k, w, n⟩ : Tk), a)) .full (how.keep hH2) rfl (by simp; omega)
        simp only [List.length_map, Nat.add_zero] at this
        rw [List.map_append]
        exact this
      have hCC1 := f1.le
      have hci : c < i.getD C1 ∧ i.getD C1 < C1 + 1 := by
        cases hi' : i with
        | none => simp; omega
        | some k' => have := hi k' hi'; simp; omega
      have hc2 : upd (upd H1 C (.cells [.int .i64 k, .str w, .int .i64 n, .int .i64 (a : Int)])) (i.getD C1) (.arr (acc.length + 1) 4) C = some (.cells [.int .i64 k, .str w, .int .i64 n, .int .i64 (a : Int)]) := by
        rw [upd_ne, upd_same]
        cases hi' : i with
        | none => simp; omega
        | some k' => have := hi k' hi'; simp; omega
      have hfr2 : Fr h c (upd (upd H1 C (.cells [.int .i64 k, .str w, .int .i64 n, .int .i64 (a : Int)])) (i.getD C1) (.arr (acc.length + 1) 4)) (C1 + 1) [] :=
        ((((hfr.upd _ (.inr (Nat.le_of_lt hcC)) (Nat.le_succ _)).trans f1 (by simp)).upd _ (.inr (Nat.le_of_lt hcC)) (Nat.le_refl _)).upd _ (.inr (by omega)) (Nat.le_succ _))
      simp -dsimp -implicitDefEqProofs only [go_sem, Nat.reduceAdd, Nat.reduceEqDiff, reduceIte, reduceCtorEq, Nat.reduceLeDiff, Nat.reduceLT, Nat.reduceSub, Int.reduceEq, Int.reduceLT, OpK_alloc, hz, zeroT, tokC, ldCells, partsV, g5, g6, happ, hc2]
      refine CondV_split (fun hq => ?_) fun hq => ?_
      · have hk : k = 0 := by simpa using hq
        rw [if_pos hk] at hst
        simp -dsimp -implicitDefEqProofs only [go_sem, Nat.reduceAdd, Nat.reduceEqDiff, reduceIte, reduceCtorEq, Nat.reduceLeDiff, Nat.reduceLT, Nat.reduceSub, Int.reduceEq, Int.reduceLT, g5, ownV]
        rw [← hst]
        exact ⟨_, rfl, _, _, rfl, hfr2⟩
      · have hk : k ≠ 0 := by simpa using hq
        rw [if_neg hk] at hst
        simp -dsimp -implicitDefEqProofs only [go_sem, Nat.reduceAdd, Nat.reduceEqDiff, reduceIte, reduceCtorEq, Nat.reduceLeDiff, Nat.reduceLT, Nat.reduceSub, Int.reduceEq, Int.reduceLT, g5]
        have hne : s.drop a ≠ [] := by
          intro e0
          rw [e0] at hp
          simp only [tokP, Prod.mk.injEq, Tk.mk.injEq] at hp
          exact hk hp.2.1.1.symm
        have h1pl := hl3 hne
        have haj : j ≤ a := by omega
        refine Again.of f (by omega) ⟨a + pl, acc ++ [(⟨k, w, n⟩, a)], some (i.getD C1), _, _, by omega, by omega, by simp; omega, hst, hfr2, ?_, ?_, ?_, by omega, g5, rfl, rfl⟩
        · simp [OwnH, upd_same]
        · rintro k' hk'; injection hk' with hk'; subst hk'; exact hci
        · rw [upd_ne _ _ (by omega), upd_ne _ _ hcC', hr1]
    · rw [if_pos he] at hst
      simp -dsimp -implicitDefEqProofs only [go_sem, Nat.reduceAdd, Nat.reduceEqDiff, reduceIte, reduceCtorEq, Nat.reduceLeDiff, Nat.reduceLT, Nat.reduceSub, Int.reduceEq, Int.reduceLT, OpK_alloc, hz, zeroT, tokC, he]
      rw [← hst]
      exact ⟨_, rfl, _, _, rfl, ((hfr.upd _ (.inr (Nat.le_of_lt hcC)) (Nat.le_succ _)).trans f1 (by simp)).upd _ (.inr (Nat.le_of_lt hcC)) (Nat.le_refl _)⟩

end Go.Proofs.YtggdpckdlcngpaaDoor
