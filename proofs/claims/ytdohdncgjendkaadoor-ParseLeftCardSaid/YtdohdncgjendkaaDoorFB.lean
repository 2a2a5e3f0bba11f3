/- How many tokens there are. Tokens stand one behind the other. -/
import Derived.Test.YtdohdncgjendkaaDoorFA
set_option linter.unusedVariables false
set_option linter.unusedSimpArgs false
namespace Go.Proofs.YtdohdncgjendkaaDoor
open Abs Go.RowKit
theorem Toks_len (s : List UInt8) : (Toks s).1.length ≤ s.length + 1 := by
 have key : ∀ (f i : Nat) (acc : List (Tk × Nat)), i ≤ s.length → acc.length ≤ i → (toksP s f i acc).1.length ≤ s.length + 1 := by
  intro f
  induction f with
  | zero => intro i acc hi ha; simp [toksP]
  | succ f ih =>
   intro i acc hi ha
   have hsk := skipM_le false (s.drop i)
   rw [List.length_drop] at hsk
   have htl := tokP_len (s.drop (i + skipM false (s.drop i)))
   rw [List.length_drop] at htl
   simp only [toksP]
   split
   ·simp
   ·rename_i he
    obtain ⟨h1, h2, h3⟩ := htl (by simpa using he)
    split
    ·simp; omega
    ·rename_i hk
     have hne : s.drop (i + skipM false (s.drop i)) ≠ [] := by
      intro e0; rw [e0] at hk; simp [tokP] at hk
     have := h3 hne
     exact ih _ _ (by omega) (by simp; omega)
 rw [Toks]
 split
 ·simp
 ·exact key _ _ _ (Nat.zero_le _) (by simp)
/-- Tokens that stand one behind the other, ahead of a place. -/
def Rise (n i : Nat) (l : List (Tk × Nat)) : Prop := ∀ (j : Nat) (p : Tk × Nat), l[j]? = some p → p.1.k ≠ 0 ∧ p.2 < i ∧ p.2 < n ∧ ∀ (j' : Nat) (p' : Tk × Nat), j' < j → l[j']? = some p' → p'.2 < p.2
theorem Rise.nil (n i : Nat) : Rise n i [] := fun j p h => by simp at h
theorem Rise.snoc {n i i' : Nat} {l : List (Tk × Nat)} (h : Rise n i l) (t : Tk) (a : Nat) (hk : t.k ≠ 0) (ha : i ≤ a) (hn : a < n) (hi : a < i') : Rise n i' (l ++ [(t, a)]) := by
 intro j p hp
 rcases Nat.lt_or_ge j l.length with hj | hj
 ·rw [List.getElem?_append_left hj] at hp
  obtain ⟨h1, h2, h3, h4⟩ := h j p hp
  refine ⟨h1, by omega, h3, fun j' p' hj' hp' => ?_⟩
  rw [List.getElem?_append_left (by omega)] at hp'
  exact h4 j' p' hj' hp'
 ·rw [List.getElem?_append_right hj] at hp
  have : j - l.length = 0 := by
   rcases Nat.eq_zero_or_pos (j - l.length) with h0 | h0
   ·exact h0
   ·rw [List.getElem?_eq_none (by simp; omega)] at hp; cases hp
  rw [this] at hp
  simp at hp
  subst hp
  refine ⟨hk, hi, hn, fun j' p' hj' hp' => ?_⟩
  rw [List.getElem?_append_left (by omega)] at hp'
  have := (h j' p' hp').2.1
  simp only; omega
theorem toksP_rise (s : List UInt8) : ∀ (f i : Nat) (acc : List (Tk × Nat)), s.length + 1 - i ≤ f → i ≤ s.length → Rise s.length i acc →
  ((toksP s f i acc).2.2 ≠ 0 → (toksP s f i acc).1 = []) ∧ ((toksP s f i acc).2.2 = 0 → (toksP s f i acc).2.1 = 0 ∧ ∃ l, (toksP s f i acc).1 = l ++ [((⟨0, [], 0⟩ : Tk), s.length)] ∧ Rise s.length s.length l) := by
 intro f
 induction f with
 | zero => intro i acc hf hi; omega
 | succ f ih =>
  intro i acc hf hi hr
  have hsk := skipM_le false (s.drop i)
  rw [List.length_drop] at hsk
  have htl := tokP_len (s.drop (i + skipM false (s.drop i)))
  rw [List.length_drop] at htl
  simp only [toksP]
  split
  ·rename_i he; exact ⟨fun _ => rfl, fun e => absurd e he⟩
  ·rename_i he
   obtain ⟨h1, h2, h3⟩ := htl (by simpa using he)
   split
   ·rename_i hk
    refine ⟨fun e => absurd rfl e, fun _ => ⟨rfl, acc, ?_, fun j p hp => ?_⟩⟩
    ·have hd := h2 hk
     have : i + skipM false (s.drop i) = s.length := by
      have := congrArg List.length hd
      simp at this; omega
     rw [this, List.drop_length]; simp [tokP]
    ·obtain ⟨q1, q2, q3, q4⟩ := hr j p hp
     exact ⟨q1, by omega, q3, q4⟩
   ·rename_i hk
    have hne : s.drop (i + skipM false (s.drop i)) ≠ [] := by
     intro e0; rw [e0] at hk; simp [tokP] at hk
    have hlt : i + skipM false (s.drop i) < s.length := by
     rcases Nat.lt_or_ge (i + skipM false (s.drop i)) s.length with h' | h'
     ·exact h'
     ·exact absurd (List.drop_eq_nil_of_le h') hne
    have := h3 hne
    exact ih _ _ (by omega) (by omega) (hr.snoc _ _ hk (Nat.le_add_right _ _) hlt (by omega))
theorem Toks_rise (s : List UInt8) : ((Toks s).2.2 ≠ 0 → (Toks s).1 = []) ∧ ((Toks s).2.2 = 0 → (Toks s).2.1 = 0 ∧ ∃ l, (Toks s).1 = l ++ [((⟨0, [], 0⟩ : Tk), s.length)] ∧ Rise s.length s.length l) := by
 rw [Toks]
 split
 ·exact ⟨fun _ => rfl, fun e => by simp at e⟩
 ·exact toksP_rise s _ 0 [] (by omega) (Nat.zero_le _) (Rise.nil _ _)
end Go.Proofs.YtdohdncgjendkaaDoor
