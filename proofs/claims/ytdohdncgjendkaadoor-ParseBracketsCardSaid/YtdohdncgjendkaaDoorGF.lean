/- Two sources, one behind the other. Tokens that are cut out of a source. A source's tokens, each on its own line. Brackets in one another: how they are read. Some sources, token by token. Brackets around an exp: two parsers side by side. Brackets around an exp: side by side, each function. Brackets around an exp: the law, plainly. -/
import Derived.Test.YtdohdncgjendkaaDoorFB
import Derived.Test.YtdohdncgjendkaaDoorGD
import Derived.Test.YtdohdncgjendkaaDoorGC
set_option linter.unusedVariables false
set_option linter.unusedSimpArgs false
namespace Go.Proofs.YtdohdncgjendkaaDoor
open Abs Go.RowKit
/-- A source's tokens but for the end, from a place on. -/
inductive Lx : List UInt8 → Nat → List (Tk × Nat) → Prop
 | done {l : List UInt8} {i : Nat} : skipM false l = l.length → Lx l i []
 | tok {l : List UInt8} {i : Nat} {t : Tk} {n : Nat} {L : List (Tk × Nat)} : l.drop (skipM false l) ≠ [] → tokP (l.drop (skipM false l)) = (0, t, n) → Lx ((l.drop (skipM false l)).drop n) (i + skipM false l + n) L → Lx l i ((t, i + skipM false l) :: L)
theorem Lx.shift {l : List UInt8} {i : Nat} {L : List (Tk × Nat)} (d : Nat) (h : Lx l i L) : Lx l (i + d) (L.map fun p => (p.1, p.2 + d)) := by
 induction h with
 | done h1 => exact .done h1
 | @tok l i t n L h1 h2 h3 ih =>
  have := Lx.tok (i := i + d) h1 h2 (by rw [show i + d + skipM false l + n = i + skipM false l + n + d by omega]; exact ih)
  rw [List.map_cons]
  rw [show i + d + skipM false l = i + skipM false l + d by omega] at this
  exact this
theorem tok_k {l : List UInt8} (h : l ≠ []) (he : (tokP l).1 = 0) : (tokP l).2.1.k ≠ 0 := fun e => h ((tokP_len l he).2.1 e)
theorem toksP_lx (s : List UInt8) : ∀ (f i : Nat) (acc : List (Tk × Nat)), s.length + 1 - i ≤ f → i ≤ s.length → (toksP s f i acc).2.2 = 0 → ∃ L, (toksP s f i acc).1 = acc ++ L ++ [((⟨0, [], 0⟩ : Tk), s.length)] ∧ Lx (s.drop i) i L := by
 intro f
 induction f with
 | zero => intro i acc hf hi; omega
 | succ f ih =>
  intro i acc hf hi he
  have hsk := skipM_le false (s.drop i)
  rw [List.length_drop] at hsk
  have hdd : (s.drop i).drop (skipM false (s.drop i)) = s.drop (i + skipM false (s.drop i)) := by rw [List.drop_drop]
  have htl := tokP_len (s.drop (i + skipM false (s.drop i)))
  rw [List.length_drop] at htl
  simp only [toksP] at he ⊢
  split at he
  ·rename_i h1; exact absurd he h1
  ·rename_i h1
   rw [if_neg h1]
   obtain ⟨g1, g2, g3⟩ := htl (by simpa using h1)
   split at he
   ·rename_i hk
    rw [if_pos hk]
    have hd := g2 hk
    have hl : i + skipM false (s.drop i) = s.length := by
     have := congrArg List.length hd
     simp at this; omega
    refine ⟨[], ?_, .done (by rw [List.length_drop]; omega)⟩
    rw [hl, List.drop_length]; simp [tokP]
   ·rename_i hk
    rw [if_neg hk]
    have hne : s.drop (i + skipM false (s.drop i)) ≠ [] := by
     intro e0; rw [e0] at hk; simp [tokP] at hk
    have := g3 hne
    obtain ⟨L, hL, hx⟩ := ih _ _ (by omega) (by omega) he
    refine ⟨_ :: L, ?_, Lx.tok (t := (tokP (s.drop (i + skipM false (s.drop i)))).2.1) (n := (tokP (s.drop (i + skipM false (s.drop i)))).2.2) (by rw [hdd]; exact hne) ?_ ?_⟩
    ·rw [hL]; simp
    ·rw [hdd]
     have h1' : (tokP (s.drop (i + skipM false (s.drop i)))).1 = 0 := by simpa using h1
     rw [← h1']
    ·rw [hdd, List.drop_drop]; exact hx
theorem lx_toksP (s : List UInt8) : ∀ (f i : Nat) (acc L : List (Tk × Nat)), s.length + 1 - i ≤ f → i ≤ s.length → Lx (s.drop i) i L → toksP s f i acc = (acc ++ L ++ [((⟨0, [], 0⟩ : Tk), s.length)], 0, 0) := by
 intro f
 induction f with
 | zero => intro i acc L hf hi; omega
 | succ f ih =>
  intro i acc L hf hi hx
  have hdd : (s.drop i).drop (skipM false (s.drop i)) = s.drop (i + skipM false (s.drop i)) := by rw [List.drop_drop]
  have htl := tokP_len (s.drop (i + skipM false (s.drop i)))
  rw [List.length_drop] at htl
  simp only [toksP]
  generalize hl : s.drop i = l at *
  cases hx with
  | done h1 =>
   have : s.drop (i + skipM false l) = [] := by rw [List.drop_eq_nil_iff, h1, ← hl, List.length_drop]; omega
   have h2 : i + skipM false l = s.length := by rw [h1, ← hl, List.length_drop]; omega
   rw [this, h2]; simp [tokP]
  | @tok _ _ t n L h1 h2 h3 =>
   rw [hdd] at h1 h2 h3
   rw [h2] at htl ⊢
   obtain ⟨g1, g2, g3⟩ := htl rfl
   have hk : t.k ≠ 0 := fun e => h1 (g2 e)
   have := g3 h1
   simp only at g1 this
   rw [if_neg (by simp)]
   simp only
   rw [if_neg hk]
   have hlt : i + skipM false l < s.length := by
    rcases Nat.lt_or_ge (i + skipM false l) s.length with h' | h'
    ·exact h'
    ·exact absurd (List.drop_eq_nil_of_le h') h1
   rw [ih (i + skipM false l + n) _ L (by omega) (by omega) (by rw [← List.drop_drop]; exact h3)]
   simp
theorem Toks_lx {s : List UInt8} (h : (Toks s).2.2 = 0) : ∃ L, Toks s = (L ++ [((⟨0, [], 0⟩ : Tk), s.length)], 0, 0) ∧ Lx s 0 L := by
 have hp := (Toks_rise s).2 h
 unfold Toks at h ⊢
 unfold Toks at hp
 split at h
 ·simp at h
 ·rename_i h1
  rw [if_neg h1] at hp ⊢
  obtain ⟨L, hL, hx⟩ := toksP_lx s _ 0 [] (by omega) (Nat.zero_le _) h
  refine ⟨L, ?_, by simpa using hx⟩
  generalize toksP s (s.length + 1) 0 [] = p at *
  obtain ⟨p1, p2, p3⟩ := p
  simp only at h hL hp
  obtain ⟨hp1, _⟩ := hp
  rw [h, hL, hp1]; simp
theorem lx_Toks {s : List UInt8} {L : List (Tk × Nat)} (hl : s.length ≤ 2000) (h : Lx s 0 L) : Toks s = (L ++ [((⟨0, [], 0⟩ : Tk), s.length)], 0, 0) := by
 rw [Toks, if_neg (by omega), lx_toksP s _ 0 [] L (by omega) (Nat.zero_le _) (by simpa using h)]
 simp
/-! ### A line's end parts -/
theorem takeWhile_line {p : UInt8 → Bool} (hp : p 10 = false) : ∀ (l r : List UInt8), (l ++ 10 :: r).takeWhile p = l.takeWhile p
 | [], r => by rw [List.nil_append, List.takeWhile_cons, if_neg (by simp [hp])]; rfl
 | b :: l, r => by
  rw [List.cons_append, List.takeWhile_cons, List.takeWhile_cons, takeWhile_line hp l r]
theorem hexStep_line : ∀ (k n : Nat) (w r : List UInt8), hexStep k n (w ++ 10 :: r) = hexStep k n (w ++ [10]) ∧ ((hexStep k n (w ++ [10])).1 = 0 → k ≤ w.length)
 | 0, n, w, r => ⟨by simp [hexStep], fun _ => Nat.zero_le _⟩
 | k + 1, n, [], r => by
  have : hexV 10 = none := rfl
  simp [hexStep, this]
 | k + 1, n, a :: w, r => by
  rw [List.cons_append, List.cons_append, hexStep, hexStep]
  cases hexV a with
  | none => exact ⟨rfl, fun e => by simp at e⟩
  | some y =>
   obtain ⟨h1, h2⟩ := hexStep_line k (16 * n + y) w r
   exact ⟨h1, fun e => by have := h2 e; simp; omega⟩
theorem escP_line (w r : List UInt8) : escP (w ++ 10 :: r) = escP (w ++ [10]) ∧ ((escP (w ++ [10])).1 = 0 → (escP (w ++ [10])).2.2 ≤ w.length) := by
 cases w with
 | nil => exact ⟨rfl, fun e => by simp [escP] at e⟩
 | cons c w =>
  simp only [List.cons_append, escP]
  split
  ·simp
  ·split
   ·simp
   ·split
    ·simp
    ·split
     ·simp
     ·obtain ⟨h1, h2⟩ := hexStep_line 2 0 w r
      refine ⟨h1, fun e => ?_⟩
      have := h2 e
      have h3 := (hexStep_ok 2 0 _ e).2
      rw [h3]; simp; omega
theorem unqK_line : ∀ (w : List UInt8) (k : Nat) (acc : List UInt8) (a : Nat) (r : List UInt8), k ≤ w.length → unqK (w ++ 10 :: r) k acc a = unqK (w ++ [10]) k acc a ∧ ((unqK (w ++ [10]) k acc a).2.2 = 0 → (unqK (w ++ [10]) k acc a).2.1 ≤ a + w.length)
 | [], 0, acc, a, r, hk => by simp [unqK]
 | [], k + 1, acc, a, r, hk => by simp at hk
 | c :: w, k + 1, acc, a, r, hk => by
  rw [List.cons_append, List.cons_append, unqK, unqK]
  obtain ⟨h1, h2⟩ := unqK_line w k acc a r (by simpa using hk)
  exact ⟨h1, fun e => by have := h2 e; simp; omega⟩
 | c :: w, 0, acc, a, r, hk => by
  obtain ⟨e1, e2⟩ := escP_line w r
  simp only [List.cons_append, unqK, e1]
  split
  ·simp
  ·split
   ·split
    ·simp
    ·first | (simp; done) | (simp; omega)
   ·split
    ·split
     ·rename_i h3; exact ⟨rfl, fun e => absurd e h3⟩
     ·rename_i h3
      have h4 := e2 (by simpa using h3)
      obtain ⟨h1, h2⟩ := unqK_line w (escP (w ++ [10])).2.2 (acc ++ [(escP (w ++ [10])).2.1]) (a + 1 + (escP (w ++ [10])).2.2) r h4
      refine ⟨h1, fun e => ?_⟩
      have hb := h2 e
      rw [unqK_drop] at hb e
      have e5 : (w ++ [10]).drop (escP (w ++ [10])).2.2 = w.drop (escP (w ++ [10])).2.2 ++ [10] := by rw [List.drop_append_of_le_length h4]
      rw [e5] at hb e
      have := (unqK_line (w.drop (escP (w ++ [10])).2.2) 0 (acc ++ [(escP (w ++ [10])).2.1]) (a + 1 + (escP (w ++ [10])).2.2) r (Nat.zero_le _)).2 e
      rw [unqK_drop, e5]
      simp at this ⊢; omega
    ·split
     ·simp
     ·obtain ⟨h1, h2⟩ := unqK_line w 0 (acc ++ [c]) (a + 1) r (Nat.zero_le _)
      exact ⟨h1, fun e => by have := h2 e; simp; omega⟩
termination_by w => w.length
theorem tokP_line (c : UInt8) (w r : List UInt8) : tokP (c :: (w ++ 10 :: r)) = tokP (c :: (w ++ [10])) ∧ ((tokP (c :: (w ++ [10]))).1 = 0 → c ≠ 10 → (tokP (c :: (w ++ [10]))).2.2 ≤ w.length + 1) := by
 have t1 : ∀ r, (c :: (w ++ 10 :: r)).takeWhile digitB = (c :: w).takeWhile digitB := fun r => takeWhile_line (p := digitB) rfl (c :: w) r
 have t2 : ∀ r, (c :: (w ++ 10 :: r)).takeWhile innerB = (c :: w).takeWhile innerB := fun r => takeWhile_line (p := innerB) rfl (c :: w) r
 have t3 : unq (c :: (w ++ 10 :: r)) = unq (c :: (w ++ [10])) := by
  simp only [unq]
  rw [(unqK_line w 0 [] 1 r (Nat.zero_le _)).1]
 have t4 : (c :: (w ++ 10 :: r)).take 2 = (c :: (w ++ [10])).take 2 := by cases w <;> rfl
 have t5 : (c :: (w ++ 10 :: r)).take 1 = (c :: (w ++ [10])).take 1 := rfl
 have l1 := takeWhile_len digitB (c :: w)
 have l2 := takeWhile_len innerB (c :: w)
 refine ⟨by simp only [tokP, t1, t2, t3, t4, t5], fun he hc => ?_⟩
 simp only [tokP, t1, t2] at he ⊢
 split
 ·rename_i h1
  rw [if_pos h1] at he
  split
  ·simpa using l1
  ·simp
 ·rename_i h1
  rw [if_neg h1] at he
  split
  ·rename_i h2
   rw [if_pos h2] at he
   split
   ·rename_i h3
    have : unq (c :: (w ++ [10])) = unqK (w ++ [10]) 0 [] 1 := by rw [unq, if_neg (by simp [h2])]
    rw [this] at h3 ⊢
    have := (unqK_line w 0 [] 1 r (Nat.zero_le _)).2 h3
    simp only; omega
   ·simp
  ·split
   ·split
    ·simp
    ·simpa using l2
   ·split
    ·split
     ·rename_i h5
      cases w with
      | nil => simp at h5
      | cons b w => simp
     ·simp
    ·simp
theorem skipM_line2 : ∀ (u r : List UInt8) (b : Bool), (skipM b (u ++ [10]) ≤ u.length → skipM b (u ++ 10 :: r) = skipM b (u ++ [10])) ∧ (skipM b (u ++ [10]) = u.length + 1 → skipM b (u ++ 10 :: r) = u.length + 1 + skipM false r)
 | [], r, b => by cases b <;> simp [skipM]
 | c :: u, r, true => by
  have i1 := skipM_line2 u r true
  have i2 := skipM_line2 u r false
  simp only [List.cons_append, skipM, List.length_cons]
  split
  ·exact ⟨fun h => by rw [i2.1 (by omega)], fun h => by rw [i2.2 (by omega)]; omega⟩
  ·exact ⟨fun h => by rw [i1.1 (by omega)], fun h => by rw [i1.2 (by omega)]; omega⟩
 | c :: u, r, false => by
  have i1 := skipM_line2 u r true
  have i2 := skipM_line2 u r false
  simp only [List.cons_append, skipM, List.length_cons]
  split
  ·exact ⟨fun h => by rw [i2.1 (by omega)], fun h => by rw [i2.2 (by omega)]; omega⟩
  ·split
   ·exact ⟨fun h => by rw [i1.1 (by omega)], fun h => by rw [i1.2 (by omega)]; omega⟩
   ·exact ⟨fun _ => rfl, fun h => by omega⟩
theorem Lx.ahead {g t : List UInt8} (hg : ∀ t, skipM false (g ++ t) = g.length + skipM false t) {i : Nat} {L : List (Tk × Nat)} (h : Lx t (i + g.length) L) : Lx (g ++ t) i L := by
 have hd : (g ++ t).drop (skipM false (g ++ t)) = t.drop (skipM false t) := by rw [hg, ← List.drop_drop, List.drop_left]
 cases h with
 | done h1 => exact .done (by rw [hg, h1, List.length_append])
 | tok h1 h2 h3 =>
  have := Lx.tok (l := g ++ t) (i := i) (by rw [hd]; exact h1) (by rw [hd]; exact h2) (by rw [hd, hg, ← Nat.add_assoc]; exact h3)
  rw [hg, ← Nat.add_assoc] at this
  exact this
theorem Lx.app {l : List UInt8} {i : Nat} {L : List (Tk × Nat)} (h : Lx l i L) : ∀ (u r : List UInt8) (M : List (Tk × Nat)), l = u ++ [10] → Lx r (i + u.length + 1) M → Lx (u ++ 10 :: r) i (L ++ M) := by
 induction h with
 | @done l i h1 =>
  rintro u r M rfl hM
  have h2 := (skipM_line2 u r false).2 (by rw [h1]; simp)
  have hd : (u ++ 10 :: r).drop (skipM false (u ++ 10 :: r)) = r.drop (skipM false r) := by
   rw [h2, ← List.drop_drop, show u.length + 1 = (u ++ [10]).length by simp, show u ++ 10 :: r = (u ++ [10]) ++ r by simp, List.drop_left]
  rw [List.nil_append]
  cases hM with
  | done h3 => exact .done (by rw [h2, h3]; simp; omega)
  | tok h3 h4 h5 =>
   have := Lx.tok (l := u ++ 10 :: r) (i := i) (by rw [hd]; exact h3) (by rw [hd]; exact h4) (by rw [hd, h2, show i + (u.length + 1 + skipM false r) = i + u.length + 1 + skipM false r by omega]; exact h5)
   rw [h2, show i + (u.length + 1 + skipM false r) = i + u.length + 1 + skipM false r by omega] at this
   exact this
 | @tok l i t n L h1 h2 h3 ih =>
  rintro u r M rfl hM
  have hle : skipM false (u ++ [10]) ≤ u.length := by
   rcases Nat.lt_or_ge u.length (skipM false (u ++ [10])) with h' | h'
   ·exact absurd (List.drop_eq_nil_of_le (by simp; omega)) h1
   ·exact h'
  have hs := (skipM_line2 u r false).1 hle
  generalize hk : skipM false (u ++ [10]) = k at *
  have d1 : (u ++ [10]).drop k = u.drop k ++ [10] := by rw [List.drop_append_of_le_length hle]
  have d2 : (u ++ 10 :: r).drop k = u.drop k ++ 10 :: r := by rw [List.drop_append_of_le_length hle]
  rw [d1] at h1 h2 h3 ih
  cases hu : u.drop k with
  | nil =>
   rw [hu] at h2
   have : (tokP ([] ++ [10])).1 = 10 := rfl
   rw [h2] at this; simp at this
  | cons c w =>
   rw [hu] at h1 h2 h3 ih d2
   have hw : u.length - k = w.length + 1 := by have := congrArg List.length hu; simpa using this
   obtain ⟨q1, q2⟩ := tokP_line c w r
   have hc10 : c ≠ 10 := by
    rintro rfl
    have : (tokP (10 :: (w ++ [10]))).1 = 10 := by
     have a1 : digitB 10 = false := rfl
     have a2 : (smallB 10 || largeB 10) = false := rfl
     have a3 : signB 10 = false := rfl
     rw [tokP, if_neg (by simp [a1]), if_neg (by decide), if_neg (by simp [a2]), if_neg (by simp [a3])]
    have h2' : tokP (10 :: (w ++ [10])) = (0, t, n) := h2
    rw [h2'] at this; simp at this
   have h2' : tokP (c :: (w ++ [10])) = (0, t, n) := h2
   rw [h2'] at q1 q2
   have hn : n ≤ w.length + 1 := q2 rfl hc10
   have e1 : (c :: w ++ [10]).drop n = (c :: w).drop n ++ [10] := by rw [List.drop_append_of_le_length (by simpa using hn)]
   have e2 : (c :: w ++ 10 :: r).drop n = (c :: w).drop n ++ 10 :: r := by rw [List.drop_append_of_le_length (by simpa using hn)]
   have := ih ((c :: w).drop n) r M e1 (by
    rw [List.length_drop, List.length_cons, show i + k + n + (w.length + 1 - n) + 1 = i + u.length + 1 by omega]
    exact hM)
   have fin := Lx.tok (l := u ++ 10 :: r) (i := i) (t := t) (n := n) (L := L ++ M) (by rw [hs, d2]; simp) (by rw [hs, d2]; exact q1) (by rw [hs, d2, e2]; exact this)
   rw [hs] at fin
   exact fin
def gaps : List (List UInt8) := [[32], [10], [9, 10, 32], [10, 35, 32, 108, 101, 116, 10], [32, 35, 10]]
theorem gap_skip (m : Nat) (g : List UInt8) (h : gaps[m]? = some g) (t : List UInt8) : skipM false (g ++ t) = g.length + skipM false t := by
 match m, h with
 | 0, h => simp [gaps] at h; subst h; simp [skipM]
 | 1, h => simp [gaps] at h; subst h; simp [skipM]
 | 2, h => simp [gaps] at h; subst h; simp [skipM]; omega
 | 3, h => simp [gaps] at h; subst h; simp [skipM]; omega
 | 4, h => simp [gaps] at h; subst h; simp [skipM]; omega
 | m + 5, h => simp [gaps] at h
/-- The law, plainly. -/
theorem Toks_joined (s t g : List UInt8) (m : Nat) (hg : gaps[m]? = some g) (hs : s.length ≤ 300) (ht : t.length ≤ 300) (h1 : (Toks (s ++ [10])).2.2 = 0) (h2 : (Toks t).2.2 = 0) :
  ∃ L M, Toks (s ++ [10]) = (L ++ [((⟨0, [], 0⟩ : Tk), s.length + 1)], 0, 0) ∧ Toks t = (M ++ [((⟨0, [], 0⟩ : Tk), t.length)], 0, 0) ∧
   Toks (s ++ [10] ++ g ++ t) = (L ++ (M ++ [((⟨0, [], 0⟩ : Tk), t.length)]).map (fun p => (p.1, p.2 + (s.length + 1 + g.length))), 0, 0) := by
 obtain ⟨L, hL, xL⟩ := Toks_lx h1
 obtain ⟨M, hM, xM⟩ := Toks_lx h2
 have hgl : g.length ≤ 7 := by
  match m, hg with
  | 0, h => simp [gaps] at h; subst h; simp
  | 1, h => simp [gaps] at h; subst h; simp
  | 2, h => simp [gaps] at h; subst h; simp
  | 3, h => simp [gaps] at h; subst h; simp
  | 4, h => simp [gaps] at h; subst h; simp
  | m + 5, h => simp [gaps] at h
 refine ⟨L, M, by rw [hL]; simp, hM, ?_⟩
 have x1 := xM.shift (s.length + 1 + g.length)
 rw [Nat.zero_add] at x1
 have x2 : Lx (g ++ t) (0 + s.length + 1) (M.map fun p => (p.1, p.2 + (s.length + 1 + g.length))) := Lx.ahead (gap_skip m g hg) (by rw [show 0 + s.length + 1 + g.length = s.length + 1 + g.length by omega]; exact x1)
 have x3 := xL.app s (g ++ t) _ rfl x2
 have := lx_Toks (s := s ++ 10 :: (g ++ t)) (by simp; omega) x3
 rw [show s ++ [10] ++ g ++ t = s ++ 10 :: (g ++ t) by simp, this]
 simp
 omega
theorem skipM_idem : ∀ (l : List UInt8) (b : Bool), skipM false (l.drop (skipM b l)) = 0
 | [], b => by cases b <;> simp [skipM]
 | c :: l, true => by
  simp only [skipM]
  split
  ·rw [Nat.add_comm, List.drop_succ_cons]; exact skipM_idem l false
  ·rw [Nat.add_comm, List.drop_succ_cons]; exact skipM_idem l true
 | c :: l, false => by
  by_cases h1 : c = 32 ∨ c = 9 ∨ c = 10
  ·have : skipM false (c :: l) = 1 + skipM false l := by simp only [skipM, if_pos h1]
   rw [this, Nat.add_comm, List.drop_succ_cons]; exact skipM_idem l false
  ·by_cases h2 : c = 35
   ·have : skipM false (c :: l) = 1 + skipM true l := by simp only [skipM, if_neg h1, if_pos h2]
    rw [this, Nat.add_comm, List.drop_succ_cons]; exact skipM_idem l true
   ·have : skipM false (c :: l) = 0 := by simp only [skipM, if_neg h1, if_neg h2]
    rw [this, List.drop_zero, this]
theorem skip_all : ∀ (l : List UInt8) (b : Bool), skipM b (l.take (skipM b l) ++ [10]) = skipM b l + 1
 | [], b => by cases b <;> simp [skipM]
 | c :: l, true => by
  by_cases h : c = 10
  ·have e : skipM true (c :: l) = 1 + skipM false l := by simp only [skipM, if_pos h]
   rw [e, Nat.add_comm, List.take_succ_cons, List.cons_append]
   simp only [skipM, if_pos h, skip_all l false]; omega
  ·have e : skipM true (c :: l) = 1 + skipM true l := by simp only [skipM, if_neg h]
   rw [e, Nat.add_comm, List.take_succ_cons, List.cons_append]
   simp only [skipM, if_neg h, skip_all l true]; omega
 | c :: l, false => by
  by_cases h1 : c = 32 ∨ c = 9 ∨ c = 10
  ·have e : skipM false (c :: l) = 1 + skipM false l := by simp only [skipM, if_pos h1]
   rw [e, Nat.add_comm, List.take_succ_cons, List.cons_append]
   simp only [skipM, if_pos h1, skip_all l false]; omega
  ·by_cases h2 : c = 35
   ·have e : skipM false (c :: l) = 1 + skipM true l := by simp only [skipM, if_neg h1, if_pos h2]
    rw [e, Nat.add_comm, List.take_succ_cons, List.cons_append]
    simp only [skipM, if_neg h1, if_pos h2, skip_all l true]; omega
   ·have e : skipM false (c :: l) = 0 := by simp only [skipM, if_neg h1, if_neg h2]
    rw [e]; simp [skipM]
/-- What may stand behind a token that is cut out. -/
def Stop (X r : List UInt8) : Prop := ∀ x, X.head? = some x → (x = 32 ∨ x = 9 ∨ x = 10 ∨ x = 35) ∨ r.head? = some x
theorem takeWhile_take (f : UInt8 → Bool) : ∀ l : List UInt8, l.take (l.takeWhile f).length = l.takeWhile f
 | [] => rfl
 | c :: l => by
  rw [List.takeWhile_cons]
  split
  ·rw [List.length_cons, List.take_succ_cons, takeWhile_take f l]
  ·simp
theorem takeWhile_all (f : UInt8 → Bool) : ∀ (l : List UInt8) (x : UInt8), x ∈ l.takeWhile f → f x = true
 | [], x, h => by simp at h
 | c :: l, x, h => by
  rw [List.takeWhile_cons] at h
  split at h
  ·rename_i h1
   rcases List.mem_cons.1 h with rfl | h
   ·exact h1
   ·exact takeWhile_all f l x h
  ·cases h
theorem takeWhile_stop (f : UInt8 → Bool) : ∀ (l : List UInt8) (x : UInt8), (l.drop (l.takeWhile f).length).head? = some x → f x = false
 | [], x, h => by simp at h
 | c :: l, x, h => by
  rw [List.takeWhile_cons] at h
  split at h
  ·rw [List.length_cons, List.drop_succ_cons] at h; exact takeWhile_stop f l x h
  ·rename_i h1; simp at h; subst h; simpa using h1
theorem takeWhile_cut (f : UInt8 → Bool) (hs : f 32 = false ∧ f 9 = false ∧ f 10 = false ∧ f 35 = false) (l X : List UInt8) (hX : Stop X (l.drop (l.takeWhile f).length)) : (l.takeWhile f ++ X).takeWhile f = l.takeWhile f := by
 have key : ∀ p : List UInt8, (∀ x ∈ p, f x = true) → (∀ x, X.head? = some x → f x = false) → (p ++ X).takeWhile f = p := by
  intro p
  induction p with
  | nil =>
   intro _ h
   cases X with
   | nil => rfl
   | cons x X => rw [List.nil_append, List.takeWhile_cons, h x rfl]; rfl
  | cons a p ih =>
   intro h1 h2
   rw [List.cons_append, List.takeWhile_cons, if_pos (h1 a List.mem_cons_self), ih (fun x hx => h1 x (List.mem_cons_of_mem _ hx)) h2]
 refine key _ (fun x hx => takeWhile_all f l x hx) fun x hx => ?_
 rcases hX x hx with (rfl | rfl | rfl | rfl) | h
 ·exact hs.1
 ·exact hs.2.1
 ·exact hs.2.2.1
 ·exact hs.2.2.2
 ·exact takeWhile_stop f l x h
theorem hexStep_cut : ∀ (k n : Nat) (w r : List UInt8), k ≤ w.length → hexStep k n (w ++ r) = hexStep k n w
 | 0, n, w, r, _ => by simp [hexStep]
 | k + 1, n, [], r, h => by simp at h
 | k + 1, n, a :: w, r, h => by
  rw [List.cons_append, hexStep, hexStep]
  cases hexV a with
  | none => rfl
  | some y => exact hexStep_cut k _ w r (by simpa using h)
theorem escP_cut (l : List UInt8) (h : (escP l).1 = 0) (m : Nat) (hm : (escP l).2.2 ≤ m) (X : List UInt8) : escP (l.take m ++ X) = escP l := by
 cases l with
 | nil => simp [escP] at h
 | cons c r =>
  obtain ⟨m, rfl⟩ : ∃ q, m = q + 1 := ⟨m - 1, by have := (escP_ok _ h).1; omega⟩
  rw [List.take_succ_cons, List.cons_append]
  simp only [escP] at h hm ⊢
  split
  ·rfl
  ·rename_i h1
   rw [if_neg h1] at h hm
   split
   ·rfl
   ·rename_i h2
    rw [if_neg h2] at h hm
    split
    ·rfl
    ·rename_i h3
     rw [if_neg h3] at h hm
     split
     ·rfl
     ·rename_i h4
      rw [if_neg h4] at h hm
      obtain ⟨g1, g2⟩ := hexStep_ok 2 0 r h
      rw [g2] at hm
      have e : r.take 2 = (r.take m).take 2 := by rw [List.take_take, Nat.min_eq_left (by omega)]
      have q1 : hexStep 2 0 (r.take m ++ X) = hexStep 2 0 (r.take 2) := by
       rw [show r.take m ++ X = r.take 2 ++ ((r.take m).drop 2 ++ X) by rw [e, ← List.append_assoc, List.take_append_drop]]
       exact hexStep_cut _ _ _ _ (by simp; omega)
      have q2 : hexStep 2 0 r = hexStep 2 0 (r.take 2) := by
       conv => lhs; rw [← List.take_append_drop 2 r]
       exact hexStep_cut _ _ _ _ (by simp; omega)
      rw [q1, q2]
theorem unqK_cut : ∀ (l : List UInt8) (k : Nat) (acc : List UInt8) (a : Nat) (X : List UInt8), (unqK l k acc a).2.2 = 0 → a + 1 ≤ (unqK l k acc a).2.1 ∧ unqK (l.take ((unqK l k acc a).2.1 - a + k) ++ X) k acc a = unqK l k acc a
 | [], k, acc, a, X, h => by simp [unqK] at h
 | c :: r, k + 1, acc, a, X, h => by
  have e : unqK (c :: r) (k + 1) acc a = unqK r k acc a := by rw [unqK]
  rw [e] at h ⊢
  obtain ⟨h1, h2⟩ := unqK_cut r k acc a X h
  refine ⟨h1, ?_⟩
  rw [show (unqK r k acc a).2.1 - a + (k + 1) = ((unqK r k acc a).2.1 - a + k) + 1 by omega, List.take_succ_cons, List.cons_append, unqK]
  exact h2
 | c :: r, 0, acc, a, X, h => by
  by_cases c1 : c = 10
  ·simp [unqK, c1] at h
  by_cases c2 : c = 34
  ·by_cases c3 : 60 < acc.length
   ·simp [unqK, c2, c3] at h
   ·have e : ∀ r, unqK (c :: r) 0 acc a = (acc, a + 1, 0) := fun r => by simp [unqK, c2, c3]
    rw [e]
    refine ⟨Nat.le_refl _, ?_⟩
    rw [show a + 1 - a + 0 = 0 + 1 by omega, List.take_succ_cons, List.cons_append, e]
  by_cases c4 : c = 92
  ·by_cases c5 : (escP r).1 ≠ 0
   ·simp [unqK, c4, c5] at h
   ·have c5' : (escP r).1 = 0 := by simpa using c5
    have e : unqK (c :: r) 0 acc a = unqK r (escP r).2.2 (acc ++ [(escP r).2.1]) (a + 1 + (escP r).2.2) := by simp [unqK, c4, c5']
    rw [e] at h ⊢
    obtain ⟨h1, h2⟩ := unqK_cut r _ _ _ X h
    generalize hu : (unqK r (escP r).2.2 (acc ++ [(escP r).2.1]) (a + 1 + (escP r).2.2)).2.1 = n at h1 h2 ⊢
    refine ⟨by omega, ?_⟩
    have hp := escP_ok r c5'
    rw [show n - a + 0 = (n - (a + 1 + (escP r).2.2) + (escP r).2.2) + 1 by omega, List.take_succ_cons, List.cons_append]
    have q := escP_cut r c5' (n - (a + 1 + (escP r).2.2) + (escP r).2.2) (by omega) X
    have e2 : ∀ r', escP r' = escP r → unqK (c :: r') 0 acc a = unqK r' (escP r).2.2 (acc ++ [(escP r).2.1]) (a + 1 + (escP r).2.2) := fun r' he => by simp [unqK, c4, he, c5']
    rw [e2 _ q]
    exact h2
  by_cases c6 : plainB c = false
  ·simp [unqK, c1, c2, c4, c6] at h
  have e : ∀ r, unqK (c :: r) 0 acc a = unqK r 0 (acc ++ [c]) (a + 1) := fun r => by simp [unqK, c1, c2, c4, c6]
  rw [e] at h ⊢
  obtain ⟨h1, h2⟩ := unqK_cut r _ _ _ X h
  refine ⟨by omega, ?_⟩
  generalize hu : (unqK r 0 (acc ++ [c]) (a + 1)).2.1 = n at h1 h2 ⊢
  rw [show n - a + 0 = (n - (a + 1) + 0) + 1 by omega, List.take_succ_cons, List.cons_append, e]
  exact h2
theorem tokP_cut {l : List UInt8} {t : Tk} {n : Nat} (hl : l ≠ []) (h : tokP l = (0, t, n)) (X : List UInt8) (hX : Stop X (l.drop n)) : 1 ≤ n ∧ tokP (l.take n ++ X) = (0, t, n) := by
 cases l with
 | nil => exact absurd rfl hl
 | cons c r =>
 have digS : digitB 32 = false ∧ digitB 9 = false ∧ digitB 10 = false ∧ digitB 35 = false := ⟨rfl, rfl, rfl, rfl⟩
 have innS : innerB 32 = false ∧ innerB 9 = false ∧ innerB 10 = false ∧ innerB 35 = false := ⟨rfl, rfl, rfl, rfl⟩
 have hn1 : 1 ≤ n := by
  have := (tokP_len (c :: r) (by rw [h])).2.2 hl
  rw [h] at this; exact this
 refine ⟨hn1, ?_⟩
 obtain ⟨m, rfl⟩ : ∃ m, n = m + 1 := ⟨n - 1, by omega⟩
 have hc : (c :: r).take (m + 1) ++ X = c :: (r.take m ++ X) := by rw [List.take_succ_cons, List.cons_append]
 simp only [tokP] at h
 by_cases h1 : digitB c = true
 ·rw [if_pos h1] at h
  split at h
  ·rename_i hv
   injection h with _ h; injection h with ht hn
   have tk := takeWhile_take digitB (c :: r)
   have cut := takeWhile_cut digitB digS (c :: r) X (by rw [hn]; exact hX)
   rw [hn] at tk
   conv at cut => lhs; rw [← tk]
   rw [hc] at cut ⊢
   simp only [tokP]
   rw [if_pos h1, cut, if_pos hv, ht, hn]
  ·cases h
 rw [if_neg h1] at h
 by_cases h2 : c = 34
 ·rw [if_pos h2] at h
  split at h
  ·rename_i hu
   injection h with _ h; injection h with ht hn
   have e : ∀ r, unq (c :: r) = unqK r 0 [] 1 := fun r => by rw [unq, if_neg (by simp [h2])]
   rw [e] at hu ht hn
   obtain ⟨g1, g2⟩ := unqK_cut r 0 [] 1 X hu
   rw [hn] at g1 g2
   rw [show m + 1 - 1 + 0 = m by omega] at g2
   rw [hc]
   simp only [tokP]
   rw [if_neg h1, if_pos h2, e, g2, if_pos hu, ht, hn]
  ·rename_i hu; exact absurd (congrArg Prod.fst h) hu
 rw [if_neg h2] at h
 by_cases h3 : (smallB c || largeB c) = true
 ·rw [if_pos h3] at h
  split at h
  ·cases h
  ·rename_i hv
   injection h with _ h; injection h with ht hn
   have tk := takeWhile_take innerB (c :: r)
   have cut := takeWhile_cut innerB innS (c :: r) X (by rw [hn]; exact hX)
   rw [hn] at tk
   conv at cut => lhs; rw [← tk]
   rw [hc] at cut ⊢
   simp only [tokP]
   rw [if_neg h1, if_neg h2, if_pos h3, cut, if_neg hv, ht, hn]
 rw [if_neg h3] at h
 by_cases h4 : signB c = true
 ·rw [if_pos h4] at h
  rw [hc]
  simp only [tokP]
  rw [if_neg h1, if_neg h2, if_neg h3, if_pos h4]
  split at h
  ·rename_i h5
   injection h with _ h; injection h with ht hn
   have hm : m = 1 := by omega
   subst hm
   cases r with
   | nil => simp at h5
   | cons b r =>
    have : (c :: (List.take 1 (b :: r) ++ X)).take 2 = [c, b] := rfl
    rw [this]
    have h5' : [c, b] = [45, 62] := h5
    rw [if_pos h5', ← ht]; rfl
  ·rename_i h5
   injection h with _ h; injection h with ht hn
   have hm : m = 0 := by omega
   subst hm
   have h6 : ¬ (c :: (List.take 0 r ++ X)).take 2 = [45, 62] := by
    intro h6
    rw [List.take_zero, List.nil_append] at h6
    cases X with
    | nil => simp at h6
    | cons x X =>
     have h7 : [c, x] = [45, 62] := h6
     injection h7 with h8 h9
     injection h9 with h9 _
     rcases hX x rfl with (g | g | g | g) | g
     ·rw [g] at h9; exact absurd h9 (by decide)
     ·rw [g] at h9; exact absurd h9 (by decide)
     ·rw [g] at h9; exact absurd h9 (by decide)
     ·rw [g] at h9; exact absurd h9 (by decide)
     ·cases r with
      | nil => simp at g
      | cons b r =>
       have : b = x := by simpa using g
       apply h5
       show [c, b] = [45, 62]
       rw [this, h8, h9]
   rw [if_neg h6, ← ht]; rfl
 ·rw [if_neg h4] at h; simp at h
theorem skipM_app : ∀ (l X : List UInt8) (b : Bool), skipM b l < l.length → skipM b (l ++ X) = skipM b l
 | [], X, b, h => by simp at h
 | c :: l, X, true, h => by
  rw [List.cons_append]
  by_cases h1 : c = 10
  ·simp only [skipM, if_pos h1, List.length_cons] at h ⊢; rw [skipM_app l X false (by omega)]
  ·simp only [skipM, if_neg h1, List.length_cons] at h ⊢; rw [skipM_app l X true (by omega)]
 | c :: l, X, false, h => by
  rw [List.cons_append]
  by_cases h1 : c = 32 ∨ c = 9 ∨ c = 10
  ·simp only [skipM, if_pos h1, List.length_cons] at h ⊢; rw [skipM_app l X false (by omega)]
  ·by_cases h2 : c = 35
   ·simp only [skipM, if_neg h1, if_pos h2, List.length_cons] at h ⊢; rw [skipM_app l X true (by omega)]
   ·simp only [skipM, if_neg h1, if_neg h2]
theorem stop_nl (r : List UInt8) : Stop (r ++ [10]) r := by
 intro x hx
 cases r with
 | nil => simp at hx; exact .inl (.inr (.inr (.inl hx.symm)))
 | cons c r => exact .inr hx
/-- A line's end behind all changes nothing. -/
theorem Lx.nl {l : List UInt8} {i : Nat} {L : List (Tk × Nat)} (h : Lx l i L) : Lx (l ++ [10]) i L := by
 induction h with
 | @done l i h1 =>
  have := skip_all l false
  rw [h1, List.take_length] at this
  exact .done (by rw [this]; simp)
 | @tok l i t n L h1 h2 h3 ih =>
  have hlt : skipM false l < l.length := by
   rcases Nat.lt_or_ge (skipM false l) l.length with h' | h'
   ·exact h'
   ·exact absurd (List.drop_eq_nil_of_le h') h1
  have hs := skipM_app l [10] false hlt
  have hd : (l ++ [10]).drop (skipM false l) = l.drop (skipM false l) ++ [10] := by rw [List.drop_append_of_le_length (by omega)]
  obtain ⟨hn1, hc⟩ := tokP_cut h1 h2 ((l.drop (skipM false l)).drop n ++ [10]) (stop_nl _)
  rw [← List.append_assoc, List.take_append_drop] at hc
  have hnl := (tokP_len (l.drop (skipM false l)) (by rw [h2])).1
  rw [h2] at hnl
  have := Lx.tok (l := l ++ [10]) (i := i) (t := t) (n := n) (L := L) (by rw [hs, hd]; simp) (by rw [hs, hd]; exact hc) (by rw [hs, hd, List.drop_append_of_le_length hnl]; exact ih)
  rw [hs] at this
  exact this
def nxt (e : Nat) : List (Tk × Nat) → Nat
 | [] => e
 | (_, b) :: _ => b
def linesP (s : List UInt8) : List (Tk × Nat) → List UInt8
 | [] => [10]
 | (_, a) :: L => (s.drop a).take (nxt s.length L - a) ++ 10 :: linesP s L
theorem Lx.nxt {s l : List UInt8} {i : Nat} {L : List (Tk × Nat)} (h : Lx l i L) (hl : l = s.drop i) (hi : i ≤ s.length) : Go.Proofs.YtdohdncgjendkaaDoor.nxt s.length L = i + skipM false l := by
 cases h with
 | done h1 => rw [Go.Proofs.YtdohdncgjendkaaDoor.nxt, h1, hl, List.length_drop]; omega
 | tok h1 h2 h3 => rfl
theorem lines_lx (s : List UInt8) {l : List UInt8} {i : Nat} {L : List (Tk × Nat)} (h : Lx l i L) : l = s.drop i → i ≤ s.length → ∃ L', Lx (linesP s L) 0 L' ∧ L'.map (·.1) = L.map (·.1) ∧ (linesP s L).length + nxt s.length L = s.length + L.length + 1 := by
 induction h with
 | @done l i h1 =>
  intro hl hi
  exact ⟨[], .done rfl, rfl, by simp [linesP, nxt]; omega⟩
 | @tok l i t n L h1 h2 h3 ih =>
  intro hl hi
  have hsk := skipM_le false l
  have hll : l.length = s.length - i := by rw [hl, List.length_drop]
  have hd : l.drop (skipM false l) = s.drop (i + skipM false l) := by rw [hl, List.drop_drop]
  have hnl := (tokP_len (l.drop (skipM false l)) (by rw [h2])).1
  rw [h2, List.length_drop] at hnl
  simp only at hnl
  have h3d : (l.drop (skipM false l)).drop n = s.drop (i + skipM false l + n) := by rw [hd, List.drop_drop]
  obtain ⟨L', q1, q2, q3⟩ := ih h3d (by omega)
  have hnx := h3.nxt h3d (by omega)
  generalize hk : skipM false ((l.drop (skipM false l)).drop n) = k at hnx
  generalize ha : i + skipM false l = a at *
  have hpiece : (s.drop a).take (nxt s.length L - a) = (s.drop a).take n ++ ((s.drop a).drop n).take k := by
   rw [hnx, show a + n + k - a = n + k by omega, List.take_add]
  have hkl : k ≤ ((s.drop a).drop n).length := by
   rw [← hk, ← hd]; exact skipM_le false _
  have hal : n + k ≤ s.length - a := by rw [List.length_drop, List.length_drop] at hkl; omega
  rw [hd] at h1 h2 hk
  have hstop : Stop (((s.drop a).drop n).take k ++ [10]) ((s.drop a).drop n) := by
   intro x hx
   cases hr : (s.drop a).drop n with
   | nil => rw [hr] at hx; simp at hx; exact .inl (.inr (.inr (.inl hx.symm)))
   | cons c r =>
    rw [hr] at hx
    cases k with
    | zero => simp at hx; exact .inl (.inr (.inr (.inl hx.symm)))
    | succ k => exact .inr hx
  obtain ⟨hn1, hc⟩ := tokP_cut h1 h2 _ hstop
  rw [← List.append_assoc, ← hpiece] at hc
  have h0 : skipM false (s.drop a) = 0 := by rw [← ha, ← List.drop_drop, ← hl]; exact skipM_idem l false
  have hp0 : skipM false ((s.drop a).take (nxt s.length L - a) ++ [10]) = 0 := by
   rw [hpiece]
   cases hr : s.drop a with
   | nil => exact absurd hr h1
   | cons c r =>
    rw [hr] at h0
    obtain ⟨m, rfl⟩ : ∃ m, n = m + 1 := ⟨n - 1, by omega⟩
    rw [List.take_succ_cons, List.cons_append, List.cons_append]
    simp only [skipM] at h0 ⊢
    split at h0
    ·omega
    ·split at h0
     ·omega
     ·rename_i g1 g2; rw [if_neg g1, if_neg g2]
  have hone : Lx ((s.drop a).take (nxt s.length L - a) ++ [10]) 0 [(t, 0)] := by
   have := Lx.tok (l := (s.drop a).take (nxt s.length L - a) ++ [10]) (i := 0) (t := t) (n := n) (L := []) (by rw [hp0]; simp) (by rw [hp0]; exact hc) (by
    rw [hp0, List.drop_zero, hpiece, List.append_assoc, List.drop_append_of_le_length (by rw [List.length_take, List.length_drop]; omega), List.drop_eq_nil_of_le (by rw [List.length_take]; omega), List.nil_append]
    refine .done ?_
    have := skip_all ((s.drop a).drop n) false
    rw [hk] at this
    rw [this, List.length_append, List.length_take, Nat.min_eq_left hkl]; rfl)
   rw [hp0] at this
   exact this
  have happ := hone.app _ (linesP s L) _ rfl (q1.shift (0 + ((s.drop a).take (nxt s.length L - a)).length + 1) |> fun x => by rw [Nat.zero_add] at x; exact x)
  refine ⟨_, happ, ?_, ?_⟩
  ·rw [List.map_append, List.map_map]
   simp only [List.map_cons, List.map_nil, List.cons_append, List.nil_append, List.cons.injEq, true_and]
   rw [← q2]; rfl
  ·simp only [linesP, List.length_append, List.length_cons, List.length_take, List.length_drop]
   rw [show nxt s.length ((t, a) :: L) = a from rfl]
   rw [hnx] at q3 ⊢
   omega
/-- The law, plainly. -/
theorem lines_same (s : List UInt8) (hs : s.length ≤ 400) (he : (Toks s).2.2 = 0) : ∃ L, (Toks s).1 = L ++ [((⟨0, [], 0⟩ : Tk), s.length)] ∧ erN (progR s).1 = erN (progR (linesP s L)).1 ∧ (progR s).2.2 = (progR (linesP s L)).2.2 ∧ (linesP s L).length ≤ 900 := by
 obtain ⟨L, hL, xL⟩ := Toks_lx he
 obtain ⟨L', x', hm, hlen⟩ := lines_lx s xL rfl (Nat.zero_le _)
 have hTl := Toks_len s
 rw [hL] at hTl
 simp only [List.length_append, List.length_cons, List.length_nil] at hTl
 have hT := lx_Toks (s := linesP s L) (by omega) x'
 refine ⟨L, by rw [hL], ?_⟩
 have hT1 : (Toks (linesP s L)).1 = L' ++ [((⟨0, [], 0⟩ : Tk), (linesP s L).length)] := by rw [hT]
 have hT2 : (Toks (linesP s L)).2.2 = 0 := by rw [hT]
 have hL1 : (Toks s).1 = L ++ [((⟨0, [], 0⟩ : Tk), s.length)] := by rw [hL]
 have her : erT (Toks s).1 = erT (Toks (linesP s L)).1 := by
  have e : ∀ l : List (Tk × Nat), l.map (fun p => (p.1, 0)) = (l.map (·.1)).map fun t => ((t, 0) : Tk × Nat) := fun l => by rw [List.map_map]; rfl
  rw [hL1, hT1]
  simp only [erT, List.map_append]
  rw [e L, e L', hm]; rfl
 have hfu : (Toks s).1.length = (Toks (linesP s L)).1.length := by
  have := congrArg List.length her
  simpa [erT] using this
 obtain ⟨n1, q1, r1⟩ := prog_some he
 obtain ⟨n2, q2, r2⟩ := prog_some hT2
 have a1 := run_er (T := (Toks s).1) (30 * (Toks s).1.length + 9) .program ps0
 have a2 := run_er (T := (Toks (linesP s L)).1) (30 * (Toks (linesP s L)).1.length + 9) .program ps0
 rw [r1] at a1
 rw [r2, ← her, ← hfu] at a2
 rw [a1] at a2
 simp only [erP_some, Option.some.injEq, Prod.mk.injEq] at a2
 obtain ⟨b1, b2⟩ := a2
 have b3 : (erS q1).e = (erS q2).e := congrArg PS.e b2
 replace b3 : q1.e = q2.e := b3
 unfold progR
 rw [if_neg (by simpa using he), if_neg (by simpa using hT2), r1, r2]
 simp only
 rw [b3]
 by_cases hz : q2.e ≠ 0
 ·rw [if_pos hz, if_pos hz]; exact ⟨rfl, rfl, by omega⟩
 ·rw [if_neg hz, if_neg hz]; exact ⟨b1, rfl, by omega⟩
/-! ### Sources, token by token -/
/-- A text has these tokens, wherever it stands. -/
def LexAs (r : List UInt8) (R : List Tk) : Prop := ∀ i, ∃ L, Lx r i L ∧ L.map (·.1) = R
theorem LexAs.nil : LexAs [] [] := fun i => ⟨[], .done rfl, rfl⟩
theorem LexAs.blank {r : List UInt8} {R : List Tk} (h : LexAs r R) : LexAs (32 :: r) R := fun i => by
 obtain ⟨L, h1, h2⟩ := h (i + 1)
 exact ⟨L, Lx.ahead (g := [32]) (fun t => by simp [skipM]) h1, h2⟩
theorem LexAs.tok {c : UInt8} {r : List UInt8} {R : List Tk} {t : Tk} (n : Nat) (hs : skipM false (c :: r) = 0) (ht : tokP (c :: r) = (0, t, n)) (h : LexAs ((c :: r).drop n) R) : LexAs (c :: r) (t :: R) := fun i => by
 obtain ⟨L, h1, h2⟩ := h (i + n)
 refine ⟨(t, i) :: L, ?_, by simp [h2]⟩
 have := Lx.tok (l := c :: r) (i := i) (t := t) (n := n) (L := L) (by rw [hs]; simp) (by rw [hs]; exact ht) (by rw [hs]; exact h1)
 rw [hs] at this
 exact this
theorem LexAs.toks {s : List UInt8} {R : List Tk} (h : LexAs s R) (hl : s.length ≤ 2000) : (Toks s).2.2 = 0 ∧ (Toks s).1.map (·.1) = R ++ [⟨0, [], 0⟩] := by
 obtain ⟨L, h1, h2⟩ := h 0
 have := lx_Toks hl h1
 rw [this]
 exact ⟨rfl, by rw [List.map_append, h2]; rfl⟩
/-! ### The parser's state at a row of tokens -/
section
variable {T : List Tok}
def Cur (T : List Tok) (s : PS) (l : List Tk) : Prop := s.e = 0 ∧ (T.map (·.1)).drop s.at_ = l
theorem Cur.look {s : PS} {t : Tk} {r : List Tk} (h : Cur T s (t :: r)) : (look T s).1 = t := by
 obtain ⟨he, hd⟩ := h
 have h1 : (T.map (·.1))[s.at_]? = some t := by
  have := congrArg List.head? hd
  rw [List.head?_drop] at this
  exact this
 rw [List.getElem?_map] at h1
 rw [Go.Proofs.YtdohdncgjendkaaDoor.look, if_neg (by simpa using he), List.getD_eq_getElem?_getD]
 cases hT : T[s.at_]? with
 | none => rw [hT] at h1; cases h1
 | some q => rw [hT] at h1; injection h1
theorem Cur.take {s : PS} {t : Tk} {r : List Tk} (h : Cur T s (t :: r)) (hk : t.k ≠ 0) : Cur T (takeS T s) r := by
 have hl := h.look
 rw [takeS, if_pos ⟨h.1, by rw [hl]; exact hk⟩]
 refine ⟨h.1, ?_⟩
 have := congrArg (List.drop 1) h.2
 rw [List.drop_drop] at this
 exact this
theorem Cur.isW {s : PS} {t : Tk} {r : List Tk} (h : Cur T s (t :: r)) (w : List UInt8) : isW T w s = ((decide (t.k = 5) || decide (t.k = 6)) && decide (t.t = w)) := by
 rw [Go.Proofs.YtdohdncgjendkaaDoor.isW, h.look]
theorem Cur.must {s : PS} {t : Tk} {r : List Tk} (h : Cur T s (t :: r)) {w : List UInt8} (hw : Go.Proofs.YtdohdncgjendkaaDoor.isW T w s = true) (hk : t.k ≠ 0) : Cur T (mustS T w s) r := by
 rw [mustS, if_pos hw]; exact h.take hk
theorem Cur.word {s : PS} {t : Tk} {r : List Tk} (h : Cur T s (t :: r)) {k : Int} (hk : t.k = k) : wordS T k s = s := by
 rw [wordS, h.look, if_neg (by simp [hk])]
theorem Cur.same {s s' : PS} {l : List Tk} (h : Cur T s l) (h1 : s'.at_ = s.at_) (h2 : s'.e = s.e) : Cur T s' l := ⟨by rw [h2]; exact h.1, by rw [h1]; exact h.2⟩
/-- What ends an exp. -/
def stopT (t : Tk) : Prop := t.k = 0 ∨ (t.k = 5 ∧ t.t = [41]) ∨ (t.k = 6 ∧ (t.t = wEnd ∨ t.t = wWith))
def stp (T : List Tok) (s : PS) : Prop := stopT (look T s).1
theorem stp_bad {s : PS} (h : s.e ≠ 0) : stp T s := .inl (by rw [look_bad h]; rfl)
theorem Cur.stp {s : PS} {t : Tk} {r : List Tk} (h : Cur T s (t :: r)) (ht : stopT t) : stp T s := by rw [Go.Proofs.YtdohdncgjendkaaDoor.stp, h.look]; exact ht
theorem stp_isW {s : PS} (h : stp T s) (w : List UInt8) (hw : w ≠ [41] ∧ w ≠ wEnd ∧ w ≠ wWith) : isW T w s = false := by
 rw [isW]
 rcases h with h | ⟨h, h'⟩ | ⟨h, h' | h'⟩
 ·simp [h]
 ·simp [h']; intro _; exact fun e => hw.1 e.symm
 ·simp [h']; intro _; exact fun e => hw.2.1 e.symm
 ·simp [h']; intro _; exact fun e => hw.2.2 e.symm
theorem stp_begins {s : PS} (h : stp T s) : begins T s = false := by
 unfold begins
 rw [stp_isW h _ (by decide), stp_isW h _ (by decide), stp_isW h _ (by decide), stp_isW h _ (by decide)]
 rcases h with h | ⟨h, _⟩ | ⟨h, _⟩ <;> simp [h]
theorem stp_sign {s : PS} (h : stp T s) (mul : Bool) : ¬ ((look T s).1.k = 5 ∧ (look T s).1.t ∈ signsOf mul) := by
 rintro ⟨h1, h2⟩
 rcases h with h | ⟨h, h'⟩ | ⟨h, _⟩
 ·rw [h] at h1; exact absurd h1 (by decide)
 ·rw [h'] at h2; cases mul <;> simp [signsOf] at h2
 ·rw [h] at h1; exact absurd h1 (by decide)
/-- No key that an exp, or what is called, begins with. -/
def plainK (t : Tk) : Prop := ¬ (t.k = 6 ∧ (t.t = wLet ∨ t.t = wFun ∨ t.t = wIf ∨ (kindOf t.t).1 > 0))
theorem app_atom {f : Nat} {s s' : PS} {n : Nd} (hk : plainK (look T s).1) (hr : run T f .app s = some (n, s')) : ∃ f1 n1 s1, run T f1 .atom s = some (n1, s1) ∧ (stp T s1 → s' = s1) := by
 cases f with
 | zero => cases hr
 | succ f =>
 rw [run_app, if_neg (fun h => hk ⟨h.1, .inr (.inr (.inr h.2))⟩)] at hr
 dsimp only at hr
 split at hr
 ·rename_i n1 s1 h1
  refine ⟨f, n1, s1, h1, fun hs => ?_⟩
  cases f with
  | zero => cases hr
  | succ f =>
   rw [run_appLoop, if_neg (by rw [stp_begins hs]; simp)] at hr
   injection hr with hr; injection hr with _ hr; exact hr.symm
 ·cases hr
theorem sums_atom {f : Nat} {mul : Bool} {s s' : PS} {n : Nd} (hk : plainK (look T s).1) (hr : run T f (.sums mul) s = some (n, s')) : ∃ f1 n1 s1, run T f1 .atom s = some (n1, s1) ∧ (stp T s1 → s' = s1) := by
 have key : ∀ (f : Nat) (mul : Bool) (n : Nd) (s' : PS), (∀ f n s', run T f (if mul then .app else .sums true) s = some (n, s') → ∃ f1 n1 s1, run T f1 .atom s = some (n1, s1) ∧ (stp T s1 → s' = s1)) → run T f (.sums mul) s = some (n, s') → ∃ f1 n1 s1, run T f1 .atom s = some (n1, s1) ∧ (stp T s1 → s' = s1) := by
  intro f mul n s' hsub hr
  cases f with
  | zero => cases hr
  | succ f =>
  rw [run_sums] at hr
  split at hr
  ·rename_i n1 s1 h1
   obtain ⟨f1, n2, s2, h2, h3⟩ := hsub _ _ _ h1
   refine ⟨f1, n2, s2, h2, fun hs => ?_⟩
   have e := h3 hs
   subst e
   cases f with
   | zero => cases hr
   | succ f =>
    rw [run_sumLoop, if_neg (stp_sign hs mul)] at hr
    injection hr with hr; injection hr with _ hr; exact hr.symm
  ·cases hr
 have ktrue : ∀ f n s', run T f (.sums true) s = some (n, s') → ∃ f1 n1 s1, run T f1 .atom s = some (n1, s1) ∧ (stp T s1 → s' = s1) := fun f n s' hr => key f true n s' (fun f n s' h => app_atom hk h) hr
 cases mul with
 | true => exact ktrue _ _ _ hr
 | false => exact key f false n s' (fun f n s' h => ktrue f n s' h) hr
theorem exp_atom {f : Nat} {s s' : PS} {n : Nd} (hk : plainK (look T s).1) (hr : run T f .exp s = some (n, s')) : ∃ f1 n1 s1, run T f1 .atom s = some (n1, s1) ∧ (stp T s1 → s' = s1) := by
 cases f with
 | zero => cases hr
 | succ f =>
 rw [run_exp, if_neg (fun h => hk ⟨h.1, .inl h.2⟩), if_neg (fun h => hk ⟨h.1, .inr (.inl h.2)⟩), if_neg (fun h => hk ⟨h.1, .inr (.inr (.inl h.2))⟩)] at hr
 split at hr
 ·rename_i n1 s1 h1
  have hc : ∃ f1 n2 s2, run T f1 .atom s = some (n2, s2) ∧ (stp T s2 → s1 = s2) := by
   cases f with
   | zero => cases h1
   | succ f =>
   rw [run_cmp] at h1
   split at h1
   ·rename_i n2 s2 h2
    obtain ⟨f1, n3, s3, h3, h4⟩ := sums_atom hk h2
    refine ⟨f1, n3, s3, h3, fun hs => ?_⟩
    have e := h4 hs
    subst e
    rw [if_neg (by rw [stp_isW hs _ (by decide), stp_isW hs _ (by decide)]; simp)] at h1
    injection h1 with h1; injection h1 with _ h1; exact h1.symm
   ·cases h1
  obtain ⟨f1, n2, s2, h2, h3⟩ := hc
  refine ⟨f1, n2, s2, h2, fun hs => ?_⟩
  have e := h3 hs
  subst e
  rw [if_neg (by rw [stp_isW hs _ (by decide)]; simp)] at hr
  injection hr with hr; injection hr with _ hr; exact hr.symm
 ·cases hr
/-- What is one deeper, from a state that is no error. -/
theorem in_inv {rn : PS → Option (Nd × PS)} {s s' : PS} {n : Nd} (he : s.e = 0) (hr : inR T rn s = some (n, s')) : (40 ≤ s.deep ∧ s' = fail T 15 s) ∨ (s.deep < 40 ∧ ∃ s2, rn { s with deep := s.deep + 1 } = some (n, s2) ∧ s' = { s2 with deep := s2.deep - 1 }) := by
 simp only [inR] at hr
 rcases Int.lt_or_le s.deep 40 with h | h
 ·have hS : (if s.deep ≥ 40 then fail T 15 s else s) = s := if_neg (by omega)
  rw [hS, if_neg (by simpa using he)] at hr
  split at hr
  ·rename_i n2 s2 h2
   injection hr with hr; injection hr with r1 r2
   subst r1
   exact .inr ⟨h, s2, h2, r2.symm⟩
  ·cases hr
 ·have hS : (if s.deep ≥ 40 then fail T 15 s else s) = fail T 15 s := if_pos h
  rw [hS, if_pos (fail_e (by decide) _)] at hr
  injection hr with hr; injection hr with r1 r2
  exact .inl ⟨h, r2.symm⟩
theorem whole_inv {rn : PS → Option (Nd × PS)} {s s' : PS} {n : Nd} (he : s.e = 0) (hf : s.flat = false) (hr : wholeR T rn s = some (n, s')) : (40 ≤ s.deep ∧ s'.e = 15 ∧ s'.bad = pos T s) ∨ (s.deep < 40 ∧ ∃ s2, rn { s with deep := s.deep + 1 } = some (n, s2) ∧ s' = { s2 with deep := s2.deep - 1, flat := false }) := by
 have hs : ({ s with flat := false } : PS) = s := by obtain ⟨a, b, c, d, e⟩ := s; simp only at hf; subst hf; rfl
 unfold wholeR at hr
 rw [hs, hf] at hr
 split at hr
 ·rename_i n2 s2 h2
  injection hr with hr; injection hr with r1 r2
  subst r1; subst r2
  rcases in_inv he h2 with ⟨h3, rfl⟩ | ⟨h3, s3, h4, rfl⟩
  ·refine .inl ⟨h3, ?_, ?_⟩
   ·simp [Go.Proofs.YtdohdncgjendkaaDoor.fail, he]
   ·simp [Go.Proofs.YtdohdncgjendkaaDoor.fail, he, pos]
  ·exact .inr ⟨h3, s3, h4, rfl⟩
 ·cases hr
theorem pos_up (hT : Srt T) {s : PS} (hi : Inv T s) (he : s.e = 0) (ha : 0 < s.at_) : 0 < pos T s := by
 have h1 := look_real hi he
 have h0 : (0 : Nat) < T.length := by have := hi.lt; omega
 have := hT 0 s.at_ _ _ ha (List.getElem?_eq_getElem h0) h1
 simp only [pos]; omega
/-- How an exp ends that is as deep as may be, or deeper. -/
def Fin (T : List Tok) (s s' : PS) (m : Nat) (l : List Tk) : Prop := (s.deep + m ≤ 40 → Cur T s' l ∧ s'.flat = false) ∧ (40 < s.deep + m → s'.e = 15 ∧ 0 < s'.bad)
theorem Fin.of_bad {s s' : PS} {m : Nat} {l : List Tk} (h : 40 < s.deep + m) (h1 : s'.e = 15) (h2 : 0 < s'.bad) : Fin T s s' m l := ⟨fun h' => by omega, fun _ => ⟨h1, h2⟩⟩
theorem Ok.bad15 {s s' : PS} (h : Ok T s s') (h1 : s.e = 15) (h2 : 0 < s.bad) : s'.e = 15 ∧ 0 < s'.bad := by
 obtain ⟨_, h3, h4⟩ := h.st (by rw [h1]; decide)
 exact ⟨by rw [h4, h1], by rw [h3]; exact h2⟩
def tLp : Tk := ⟨5, [40], 0⟩
def tRp : Tk := ⟨5, [41], 0⟩
def t7 : Tk := ⟨1, [], 7⟩
def tFun : Tk := ⟨6, wFun, 0⟩
def tX : Tk := ⟨3, [120], 0⟩
def tArr : Tk := ⟨5, wArrow, 0⟩
def tMatch : Tk := ⟨6, wMatch, 0⟩
def t1 : Tk := ⟨1, [], 1⟩
def tWith : Tk := ⟨6, wWith, 0⟩
def tBar : Tk := ⟨5, [124], 0⟩
def tAny : Tk := ⟨5, [95], 0⟩
def tEnd : Tk := ⟨6, wEnd, 0⟩
theorem take_fl (s : PS) : (takeS T s).flat = s.flat ∧ (takeS T s).deep = s.deep := ⟨take_flat s, take_deep s⟩
theorem must_flat (w : List UInt8) (s : PS) : (mustS T w s).flat = s.flat := by
 unfold mustS; split
 ·exact take_flat s
 ·unfold Go.Proofs.YtdohdncgjendkaaDoor.fail; split <;> rfl
end
def tDo : Tk := ⟨6, wDo, 0⟩
def tZ : Tk := ⟨0, [], 0⟩
theorem lex_do {r : List UInt8} {R : List Tk} (h : LexAs r R) : LexAs (100 :: 111 :: 32 :: r) (tDo :: R) := .tok 2 (by simp [skipM]) (by kernel_rfl) (.blank h)
theorem lex_rp {r : List UInt8} {R : List Tk} (h : LexAs r R) : LexAs (41 :: r) (tRp :: R) := .tok 1 (by simp [skipM]) (by kernel_rfl) h
theorem lex_lp {r : List UInt8} {R : List Tk} (h : LexAs r R) : LexAs (40 :: r) (tLp :: R) := .tok 1 (by simp [skipM]) (by kernel_rfl) h
/-- Two states with the same tokens ahead: there the end stands behind, here a bracket. -/
structure Rel (A B : List Tok) (a b : PS) : Prop where
 ea : a.e = 0
 eb : b.e = 0
 fl : a.flat = b.flat
 q : ∃ Q : List Tk, (A.map (·.1)).drop a.at_ = Q ++ [tZ] ∧ (B.map (·.1)).drop b.at_ = Q ++ [tRp, tZ] ∧ ∀ t ∈ Q, t.k ≠ 0
section
variable {A B : List Tok} {a b : PS}
theorem Rel.parts (h : Rel A B a b) : ((look A a).1.k ≠ 0 ∧ (look A a).1 = (look B b).1 ∧ Rel A B (takeS A a) (takeS B b)) ∨ ((look A a).1 = tZ ∧ (look B b).1 = tRp) := by
 obtain ⟨Q, h1, h2, h3⟩ := h.q
 have ca : Cur A a (Q ++ [tZ]) := ⟨h.ea, h1⟩
 have cb : Cur B b (Q ++ [tRp, tZ]) := ⟨h.eb, h2⟩
 cases Q with
 | nil => exact .inr ⟨ca.look, cb.look⟩
 | cons t Q =>
  have hk := h3 t List.mem_cons_self
  have la : (look A a).1 = t := Cur.look (r := Q ++ [tZ]) ca
  have lb : (look B b).1 = t := Cur.look (r := Q ++ [tRp, tZ]) cb
  have ta := Cur.take (t := t) (r := Q ++ [tZ]) ca hk
  have tb := Cur.take (t := t) (r := Q ++ [tRp, tZ]) cb hk
  exact .inl ⟨by rw [la]; exact hk, by rw [la, lb], ⟨ta.1, tb.1, by rw [take_flat, take_flat]; exact h.fl, Q, ta.2, tb.2, fun t ht => h3 t (List.mem_cons_of_mem _ ht)⟩⟩
theorem Rel.cond (h : Rel A B a b) (P : Tk → Prop) (hz : ¬ P tZ) (hr : ¬ P tRp) : P (look A a).1 ↔ P (look B b).1 := by
 rcases h.parts with ⟨_, h1, _⟩ | ⟨h1, h2⟩
 ·rw [h1]
 ·rw [h1, h2]; exact ⟨fun x => absurd x hz, fun x => absurd x hr⟩
theorem Rel.isW (h : Rel A B a b) {w : List UInt8} (hw : w ≠ [41]) : Go.Proofs.YtdohdncgjendkaaDoor.isW A w a = Go.Proofs.YtdohdncgjendkaaDoor.isW B w b := by
 unfold Go.Proofs.YtdohdncgjendkaaDoor.isW
 rcases h.parts with ⟨_, h1, _⟩ | ⟨h1, h2⟩
 ·rw [h1]
 ·rw [h1, h2]
  have : decide (tRp.t = w) = false := decide_eq_false fun e => hw (show [41] = w from e).symm
  rw [this]
  simp [tZ]
theorem Rel.take (h : Rel A B a b) (hk : (look A a).1.k ≠ 0) : Rel A B (takeS A a) (takeS B b) := by
 rcases h.parts with ⟨_, _, h1⟩ | ⟨h1, _⟩
 ·exact h1
 ·rw [h1] at hk; exact absurd rfl hk
theorem Rel.look (h : Rel A B a b) (hk : (look A a).1.k ≠ 0) : (look A a).1 = (look B b).1 := by
 rcases h.parts with ⟨_, h1, _⟩ | ⟨h1, _⟩
 ·exact h1
 ·rw [h1] at hk; exact absurd rfl hk
theorem Rel.isW' (h : Rel A B a b) {w : List UInt8} (hw : Go.Proofs.YtdohdncgjendkaaDoor.isW A w a = true) : Go.Proofs.YtdohdncgjendkaaDoor.isW B w b = true := by
 have := h.look (isW_good hw).2
 unfold Go.Proofs.YtdohdncgjendkaaDoor.isW at hw ⊢
 rw [← this]; exact hw
theorem Rel.may (h : Rel A B a b) {w : List UInt8} (hw : w ≠ [41]) : Rel A B (mayS A w a) (mayS B w b) := by
 unfold mayS
 rw [← h.isW hw]
 cases hq : Go.Proofs.YtdohdncgjendkaaDoor.isW A w a
 ·exact h
 ·exact h.take (isW_good hq).2
theorem Rel.must (h : Rel A B a b) {w : List UInt8} (he : (mustS A w a).e = 0) : Rel A B (mustS A w a) (mustS B w b) := by
 cases hq : Go.Proofs.YtdohdncgjendkaaDoor.isW A w a
 ·rw [mustS, if_neg (by rw [hq]; simp)] at he; exact absurd he (fail_e (by decide) _)
 ·rw [mustS, mustS, if_pos hq, if_pos (h.isW' hq)]; exact h.take (isW_good hq).2
theorem Rel.word (h : Rel A B a b) {k : Int} (hk : k ≠ 0) (he : (wordS A k a).e = 0) : wordS A k a = a ∧ wordS B k b = b ∧ (Go.Proofs.YtdohdncgjendkaaDoor.look A a).1.k ≠ 0 := by
 unfold wordS at he ⊢
 split at he
 ·exact absurd he (fail_e (by decide) _)
 ·rename_i h1
  have h1' : (Go.Proofs.YtdohdncgjendkaaDoor.look A a).1.k = k := by simpa using h1
  have hk0 : (Go.Proofs.YtdohdncgjendkaaDoor.look A a).1.k ≠ 0 := by rw [h1']; exact hk
  rw [if_neg h1, if_neg (by rw [← h.look hk0]; exact h1)]
  exact ⟨rfl, rfl, hk0⟩
theorem most_id {T : List Tok} {n m : Int} {s : PS} (he : (mostS T n m s).e = 0) : mostS T n m s = s := by
 unfold mostS at he ⊢
 split at he
 ·exact absurd he (fail_e (by decide) _)
 ·rename_i h; rw [if_neg h]
theorem Rel.flat (h : Rel A B a b) (x : Bool) : Rel A B { a with flat := x } { b with flat := x } := ⟨h.ea, h.eb, rfl, h.q⟩
theorem Rel.deep (h : Rel A B a b) (x y : Int) : Rel A B { a with deep := x } { b with deep := y } := ⟨h.ea, h.eb, h.fl, h.q⟩
theorem Rel.begins (h : Rel A B a b) : begins A a = begins B b := by
 unfold Go.Proofs.YtdohdncgjendkaaDoor.begins
 rw [h.isW (w := [40]) (by decide), h.isW (w := wRetry) (by decide), h.isW (w := wMatch) (by decide), h.isW (w := wTry) (by decide)]
 rcases h.parts with ⟨_, h1, _⟩ | ⟨h1, h2⟩
 ·rw [h1]
 ·rw [h1, h2]; rfl
theorem Rel.patMore (h : Rel A B a b) : patMore A a = patMore B b := by
 unfold Go.Proofs.YtdohdncgjendkaaDoor.patMore
 rw [h.isW (w := [95]) (by decide), h.isW (w := [40]) (by decide)]
 rcases h.parts with ⟨_, h1, _⟩ | ⟨h1, h2⟩
 ·rw [h1]
 ·rw [h1, h2]; rfl
/-- Two readers that read the same. -/
def Sim (A B : List Tok) (ra rb : PS → Option (Nd × PS)) : Prop := ∀ (a b : PS) (n : Nd) (a' : PS) (m : Nd) (b' : PS), Rel A B a b → ra a = some (n, a') → rb b = some (m, b') → a'.e = 0 → b'.e = 0 → erN n = erN m ∧ Rel A B a' b'
theorem in_sim {ra rb : PS → Option (Nd × PS)} (h : Sim A B ra rb) : Sim A B (inR A ra) (inR B rb) := by
 intro a b n a' m b' hr h1 h2 ea eb
 rcases in_inv hr.ea h1 with ⟨_, g⟩ | ⟨_, s, g1, g2⟩
 ·rw [g] at ea; exact absurd ea (fail_e (by decide) _)
 rcases in_inv hr.eb h2 with ⟨_, k⟩ | ⟨_, t, k1, k2⟩
 ·rw [k] at eb; exact absurd eb (fail_e (by decide) _)
 subst g2; subst k2
 obtain ⟨q1, q2⟩ := h _ _ _ _ _ _ (hr.deep (a.deep + 1) (b.deep + 1)) g1 k1 ea eb
 exact ⟨q1, q2.deep _ _⟩
theorem whole_sim {ra rb : PS → Option (Nd × PS)} (h : Sim A B ra rb) : Sim A B (wholeR A ra) (wholeR B rb) := by
 intro a b n a' m b' hr h1 h2 ea eb
 unfold wholeR at h1 h2
 split at h1
 case h_2 => cases h1
 rename_i n1 s1 g1
 split at h2
 case h_2 => cases h2
 rename_i n2 s2 g2
 injection h1 with h1; injection h1 with r1 r2
 injection h2 with h2; injection h2 with r3 r4
 subst r1; subst r2; subst r3; subst r4
 obtain ⟨q1, q2⟩ := in_sim h _ _ _ _ _ _ (hr.flat false) g1 g2 ea eb
 refine ⟨q1, ?_⟩
 have := q2.flat a.flat
 rw [hr.fl] at this ⊢
 exact this
theorem round_sim {ra rb : PS → Option (Nd × PS)} (oa : OkR A ra) (ob : OkR B rb) (h : Sim A B ra rb) : Sim A B (roundR A ra) (roundR B rb) := by
 intro a b n a' m b' hr h1 h2 ea eb
 unfold roundR at h1 h2
 split at h1
 case h_2 => cases h1
 rename_i n1 s1 g1
 split at h2
 case h_2 => cases h2
 rename_i n2 s2 g2
 injection h1 with h1; injection h1 with r1 r2
 injection h2 with h2; injection h2 with r3 r4
 subst r1; subst r2; subst r3; subst r4
 have e1 := (Ok.must (T := A) [41] s1).e0 ea
 have e2 := (Ok.must (T := B) [41] s2).e0 eb
 have e0 := (in_ok oa g1).e0 e1
 obtain ⟨q1, q2⟩ := in_sim h _ _ _ _ _ _ (hr.must e0) g1 g2 e1 e2
 exact ⟨q1, q2.must ea⟩
theorem value_sim {ra rb : PS → Option (Nd × PS)} (oa : OkR A ra) (h : Sim A B ra rb) (hr : Rel A B a b) {v w : List UInt8 × Bool × Nd} {a' b' : PS} (h1 : valueR A ra a = some (v, a')) (h2 : valueR B rb b = some (w, b')) (ea : a'.e = 0) (eb : b'.e = 0) :
  v.1 = w.1 ∧ v.2.1 = w.2.1 ∧ erN v.2.2 = erN w.2.2 ∧ Rel A B a' b' := by
 unfold valueR at h1 h2
 dsimp only at h1 h2
 split at h1
 case h_2 => cases h1
 rename_i n1 s1 g1
 split at h2
 case h_2 => cases h2
 rename_i n2 s2 g2
 injection h1 with h1; injection h1 with r1 r2
 injection h2 with h2; injection h2 with r3 r4
 subst r1; subst r2; subst r3; subst r4
 have e3 := (in_ok oa g1).e0 ea
 have hfa : (isW A wRec a && decide ((mustS A [61] (takeS A (wordS A 3 (mayS A wRec a)))).deep < 40) && !isW A wFun (mustS A [61] (takeS A (wordS A 3 (mayS A wRec a))))) = false := by
  cases hh : (isW A wRec a && decide ((mustS A [61] (takeS A (wordS A 3 (mayS A wRec a)))).deep < 40) && !isW A wFun (mustS A [61] (takeS A (wordS A 3 (mayS A wRec a)))))
  ·rfl
  ·rw [if_pos hh] at e3; exact absurd e3 (fail_e (by decide) _)
 rw [if_neg (by rw [hfa]; simp)] at e3 g1
 have r0 := hr.may (w := wRec) (by decide)
 have e2 := (Ok.must (T := A) [61] _).e0 e3
 have e1 := (Ok.take (T := A) _).e0 e2
 obtain ⟨w1, w2, w3⟩ := r0.word (k := 3) (by decide) e1
 have e3' := e3
 rw [w1] at g1 e3'
 rw [w2] at g2
 have r1 := (r0.take w3).must e3'
 have e4 : (if (isW B wRec b && decide ((mustS B [61] (takeS B (mayS B wRec b))).deep < 40) && !isW B wFun (mustS B [61] (takeS B (mayS B wRec b)))) = true then fail B 14 (mustS B [61] (takeS B (mayS B wRec b))) else mustS B [61] (takeS B (mayS B wRec b))) = mustS B [61] (takeS B (mayS B wRec b)) ∨ (inR B rb (fail B 14 (mustS B [61] (takeS B (mayS B wRec b))))) = some (n2, s2) := by
  split
  ·rename_i hc; rw [if_pos hc] at g2; exact .inr g2
  ·exact .inl rfl
 rcases e4 with e4 | e4
 ·rw [e4] at g2
  obtain ⟨q1, q2⟩ := in_sim h _ _ _ _ _ _ r1 g1 g2 ea eb
  refine ⟨?_, hr.isW (by decide), q1, q2⟩
  simp only
  rw [w1, w2, r0.look w3]
 ·-- here the state would be one behind an error
  have hb : s2.e ≠ 0 := by
   simp only [inR] at e4
   have hS : (if (fail B 14 (mustS B [61] (takeS B (mayS B wRec b)))).deep ≥ 40 then fail B 15 (fail B 14 (mustS B [61] (takeS B (mayS B wRec b)))) else fail B 14 (mustS B [61] (takeS B (mayS B wRec b)))).e ≠ 0 := by
    split
    ·exact fail_e (by decide) _
    ·exact fail_e (by decide) _
   rw [if_pos hS] at e4
   injection e4 with e4; injection e4 with _ e4
   rw [← e4]; exact hS
  exact absurd eb hb
inductive FR : Fn → Fn → Prop
 | letE : FR .letE .letE
 | funE : FR .funE .funE
 | branch : FR .branch .branch
 | exp : FR .exp .exp
 | cmp : FR .cmp .cmp
 | sums (mul : Bool) : FR (.sums mul) (.sums mul)
 | app : FR .app .app
 | matchE : FR .matchE .matchE
 | tryE : FR .tryE .tryE
 | atom : FR .atom .atom
 | pat : FR .pat .pat
 | patom : FR .patom .patom
 | sumLoop (mul : Bool) {n m : Nd} : erN n = erN m → FR (.sumLoop mul n) (.sumLoop mul m)
 | appLoop (bare : Bool) {n m : Nd} : erN n = erN m → FR (.appLoop bare n) (.appLoop bare m)
 | kidsLoop (many : Nat) {n m : Nd} : erN n = erN m → FR (.kidsLoop n many) (.kidsLoop m many)
 | matchLoop (first : Bool) {n m : Nd} : erN n = erN m → FR (.matchLoop n first) (.matchLoop m first)
 | patLoop (c : Bool) {n m : Nd} : erN n = erN m → FR (.patLoop c n) (.patLoop c m)
def preS (T : List Tok) (fn : Fn) (s : PS) : Prop := match fn with
 | .letE | .funE | .branch | .matchE | .tryE => (look T s).1.k ≠ 0
 | _ => True
theorem leaf_sim (g : Int → Int) (g0 : g 0 = 0) (h : Rel A B a b) (ea : (leaf A g a).2.e = 0) : erN (leaf A g a).1 = erN (leaf B g b).1 ∧ Rel A B (leaf A g a).2 (leaf B g b).2 := by
 unfold leaf at ea ⊢
 split at ea
 ·exact absurd ea (fail_e (by decide) _)
 ·rename_i h1
  have hk : (Go.Proofs.YtdohdncgjendkaaDoor.look A a).1.k ≠ 0 := fun e => h1 (by rw [e, g0])
  have hl := h.look hk
  rw [if_neg h1, if_neg (by rw [← hl]; exact h1)]
  refine ⟨?_, h.take hk⟩
  simp only [erN, hl]
/-- At the end no exp begins. -/
theorem end_exp {f : Nat} {s s' : PS} {n : Nd} (he : s.e = 0) (hl : (look A s).1 = tZ) (hr : run A f .exp s = some (n, s')) : s'.e ≠ 0 := by
 obtain ⟨f1, n1, s1, h1, h2⟩ := exp_atom (by rw [hl]; exact fun h => absurd h.1 (by decide)) hr
 cases f1 with
 | zero => cases h1
 | succ f1 =>
 rw [run_atom] at h1
 have e : ∀ w, isW A w s = false := fun w => by simp [Go.Proofs.YtdohdncgjendkaaDoor.isW, hl, tZ]
 simp only [e, Bool.false_eq_true, if_false] at h1
 injection h1 with h1
 have h3 : s1 = fail A 14 s := by
  have : s1 = (leaf A leafK s).2 := by rw [h1]
  rw [this, leaf, hl, if_pos (by rfl)]
 have h4 : s1.e ≠ 0 := by rw [h3]; exact fail_e (by decide) _
 rw [h2 (stp_bad h4)]; exact h4
theorem er_kids {n m : Nd} (h : erN n = erN m) : n.ks.length = m.ks.length := by
 have := congrArg (fun x => x.ks.length) h
 simpa [erN_ks, erL_len] using this
theorem er_add {n m x y : Nd} (h : erN n = erN m) (h' : erN x = erN y) : erN (n.add [x]) = erN (m.add [y]) := by rw [erN_add, erN_add, h, erL, erL, h']; rfl
theorem er_add2 {n m x y z w : Nd} (h : erN n = erN m) (h' : erN x = erN y) (h2 : erN z = erN w) : erN (n.add [x, z]) = erN (m.add [y, w]) := by rw [erN_add, erN_add, h, erL, erL, erL, erL, h', h2]; rfl
end
section
variable {A B : List Tok}
set_option maxHeartbeats 4000000 in
theorem run_sim : ∀ (f g : Nat) (fn fn' : Fn), FR fn fn' → ∀ (a b : PS) (n : Nd) (a' : PS) (m : Nd) (b' : PS), preS A fn a → Rel A B a b → run A f fn a = some (n, a') → run B g fn' b = some (m, b') → a'.e = 0 → b'.e = 0 → erN n = erN m ∧ Rel A B a' b' := by
 intro f
 induction f with
 | zero => intro g fn fn' _ a b n a' m b' _ _ h1; cases h1
 | succ f ih =>
 intro g fn fn' hF a b n a' m b' hp hr h1 h2 ea eb
 cases g with
 | zero => cases h2
 | succ g =>
 have S : ∀ {fn fn' : Fn}, FR fn fn' → (∀ a, preS A fn a) → Sim A B (run A f fn) (run B g fn') := fun hF hp a b n a' m b' hr h1 h2 ea eb => ih g _ _ hF a b n a' m b' (hp a) hr h1 h2 ea eb
 have ex : Sim A B (run A f .exp) (run B g .exp) := S .exp fun _ => trivial
 have oxa := run_ok (T := A) f .exp
 have oxb := run_ok (T := B) g .exp
 have done : ∀ {x y : Nd} {s t : PS}, erN x = erN y → Rel A B s t → some (x, s) = some (n, a') → some (y, t) = some (m, b') → erN n = erN m ∧ Rel A B a' b' := by
  intro x y s t h h' g1 g2
  injection g1 with g1; injection g1 with r1 r2
  injection g2 with g2; injection g2 with r3 r4
  subst r1; subst r2; subst r3; subst r4
  exact ⟨h, h'⟩
 cases hF
 case letE =>
  rw [run_letE] at h1 h2
  dsimp only at h1 h2
  split at h1
  case h_2 => cases h1
  rename_i nm rc v s1 g1
  split at h1
  case h_2 => cases h1
  rename_i x1 s2 g2
  split at h2
  case h_2 => cases h2
  rename_i nm' rc' v' t1 k1
  split at h2
  case h_2 => cases h2
  rename_i x2 t2 k2
  injection h1 with h1; injection h1 with r1 r2
  injection h2 with h2; injection h2 with r3 r4
  subst r1; subst r2; subst r3; subst r4
  have e2 := (in_ok oxa g2).e0 ea
  have e2' := (in_ok oxb k2).e0 eb
  have e1 := (Ok.must (T := A) wIn s1).e0 e2
  have e1' := (Ok.must (T := B) wIn t1).e0 e2'
  obtain ⟨q1, q2, q3, q4⟩ := value_sim oxa ex (hr.take hp) g1 k1 e1 e1'
  obtain ⟨q5, q6⟩ := in_sim ex _ _ _ _ _ _ (q4.must e2) g2 k2 ea eb
  simp only at q1 q2 q3
  subst q1; subst q2
  exact ⟨by rw [erN_node, erN_node, erL, erL, erL, erL, erL, erL, q3, q5], q6⟩
 case funE =>
  rw [run_funE] at h1 h2
  dsimp only at h1 h2
  split at h1
  case h_2 => cases h1
  rename_i x1 s1 g1
  split at h2
  case h_2 => cases h2
  rename_i x2 t1 k1
  injection h1 with h1; injection h1 with r1 r2
  injection h2 with h2; injection h2 with r3 r4
  subst r1; subst r2; subst r3; subst r4
  have e3 := (in_ok oxa g1).e0 ea
  have e2 := (Ok.must (T := A) wArrow _).e0 e3
  have e1 := (Ok.take (T := A) _).e0 e2
  obtain ⟨w1, w2, w3⟩ := (hr.take hp).word (k := 3) (by decide) e1
  rw [w1] at g1 e3
  rw [w2] at k1
  obtain ⟨q5, q6⟩ := in_sim ex _ _ _ _ _ _ (((hr.take hp).take w3).must e3) g1 k1 ea eb
  refine ⟨?_, q6⟩
  rw [w1, w2, (hr.take hp).look w3, erN_node, erN_node, erL, erL, erL, erL, q5]
 case branch =>
  rw [run_branch] at h1 h2
  dsimp only at h1 h2
  split at h1
  case h_2 => cases h1
  rename_i x1 s1 g1
  split at h1
  case h_2 => cases h1
  rename_i x2 s2 g2
  split at h1
  case h_2 => cases h1
  rename_i x3 s3 g3
  split at h2
  case h_2 => cases h2
  rename_i y1 t1 k1
  split at h2
  case h_2 => cases h2
  rename_i y2 t2 k2
  split at h2
  case h_2 => cases h2
  rename_i y3 t3 k3
  injection h1 with h1; injection h1 with r1 r2
  injection h2 with h2; injection h2 with r3 r4
  subst r1; subst r2; subst r3; subst r4
  have e5 := (in_ok oxa g3).e0 ea
  have e4 := (Ok.must (T := A) wElse s2).e0 e5
  have e3 := (in_ok oxa g2).e0 e4
  have e2 := (Ok.must (T := A) wThen s1).e0 e3
  have e5' := (in_ok oxb k3).e0 eb
  have e4' := (Ok.must (T := B) wElse t2).e0 e5'
  have e3' := (in_ok oxb k2).e0 e4'
  have e2' := (Ok.must (T := B) wThen t1).e0 e3'
  obtain ⟨q1, q2⟩ := in_sim ex _ _ _ _ _ _ (hr.take hp) g1 k1 e2 e2'
  obtain ⟨q3, q4⟩ := in_sim ex _ _ _ _ _ _ (q2.must e3) g2 k2 e4 e4'
  obtain ⟨q5, q6⟩ := in_sim ex _ _ _ _ _ _ (q4.must e5) g3 k3 ea eb
  exact ⟨by rw [erN_node, erN_node, erL, erL, erL, erL, erL, erL, erL, erL, q1, q3, q5], q6⟩
 case exp =>
  rw [run_exp] at h1 h2
  have cl := hr.cond (fun t => t.k = 6 ∧ t.t = wLet) (by decide) (by decide)
  have cf := hr.cond (fun t => t.k = 6 ∧ t.t = wFun) (by decide) (by decide)
  have ci := hr.cond (fun t => t.k = 6 ∧ t.t = wIf) (by decide) (by decide)
  by_cases c1 : (look A a).1.k = 6 ∧ (look A a).1.t = wLet
  ·rw [if_pos c1] at h1; rw [if_pos (cl.1 c1)] at h2
   exact ih g _ _ .letE a b n a' m b' (show (look A a).1.k ≠ 0 by rw [c1.1]; decide) hr h1 h2 ea eb
  rw [if_neg c1] at h1; rw [if_neg (fun h => c1 (cl.2 h))] at h2
  by_cases c2 : (look A a).1.k = 6 ∧ (look A a).1.t = wFun
  ·rw [if_pos c2] at h1; rw [if_pos (cf.1 c2)] at h2
   exact ih g _ _ .funE a b n a' m b' (show (look A a).1.k ≠ 0 by rw [c2.1]; decide) hr h1 h2 ea eb
  rw [if_neg c2] at h1; rw [if_neg (fun h => c2 (cf.2 h))] at h2
  by_cases c3 : (look A a).1.k = 6 ∧ (look A a).1.t = wIf
  ·rw [if_pos c3] at h1; rw [if_pos (ci.1 c3)] at h2
   exact ih g _ _ .branch a b n a' m b' (show (look A a).1.k ≠ 0 by rw [c3.1]; decide) hr h1 h2 ea eb
  rw [if_neg c3] at h1; rw [if_neg (fun h => c3 (ci.2 h))] at h2
  split at h1
  case h_2 => cases h1
  rename_i x1 s1 g1
  split at h2
  case h_2 => cases h2
  rename_i y1 t1 k1
  -- no error behind the comparison
  have e1 : s1.e = 0 := by
   split at h1
   ·split at h1
    ·rename_i x2 s2 g2
     injection h1 with h1; injection h1 with _ r2
     subst r2
     exact (Ok.may (T := A) [59] s1).e0 ((in_ok oxa g2).e0 ea)
    ·cases h1
   ·injection h1 with h1; injection h1 with _ r2
    subst r2; exact ea
  have e1' : t1.e = 0 := by
   split at h2
   ·split at h2
    ·rename_i x2 s2 g2
     injection h2 with h2; injection h2 with _ r2
     subst r2
     exact (Ok.may (T := B) [59] t1).e0 ((in_ok oxb g2).e0 eb)
    ·cases h2
   ·injection h2 with h2; injection h2 with _ r2
    subst r2; exact eb
  obtain ⟨q1, q2⟩ := S .cmp (fun _ => trivial) _ _ _ _ _ _ hr g1 k1 e1 e1'
  have hc : (!s1.flat && isW A [59] s1) = (!t1.flat && isW B [59] t1) := by rw [q2.fl, q2.isW (by decide)]
  rw [← hc] at h2
  split at h1
  ·rename_i hcc
   rw [if_pos hcc] at h2
   split at h1
   case h_2 => cases h1
   rename_i x2 s2 g2
   split at h2
   case h_2 => cases h2
   rename_i y2 t2 k2
   injection h1 with h1; injection h1 with r1 r2
   injection h2 with h2; injection h2 with r3 r4
   subst r1; subst r2; subst r3; subst r4
   obtain ⟨q3, q4⟩ := in_sim ex _ _ _ _ _ _ (q2.may (by decide)) g2 k2 ea eb
   exact ⟨by rw [erN_node, erN_node, erL, erL, erL, erL, erL, erL, q1, q3], q4⟩
  ·rename_i hcc
   rw [if_neg hcc] at h2
   exact done q1 q2 h1 h2
 case cmp =>
  rw [run_cmp] at h1 h2
  split at h1
  case h_2 => cases h1
  rename_i x1 s1 g1
  split at h2
  case h_2 => cases h2
  rename_i y1 t1 k1
  have e1 : s1.e = 0 := by
   split at h1
   ·dsimp only at h1
    split at h1
    ·rename_i x2 s2 g2
     injection h1 with h1; injection h1 with _ r2
     subst r2
     exact (Ok.take (T := A) s1).e0 ((run_ok _ _ _ _ _ g2).e0 ea)
    ·cases h1
   ·injection h1 with h1; injection h1 with _ r2
    subst r2; exact ea
  have e1' : t1.e = 0 := by
   split at h2
   ·dsimp only at h2
    split at h2
    ·rename_i x2 s2 g2
     injection h2 with h2; injection h2 with _ r2
     subst r2
     exact (Ok.take (T := B) t1).e0 ((run_ok _ _ _ _ _ g2).e0 eb)
    ·cases h2
   ·injection h2 with h2; injection h2 with _ r2
    subst r2; exact eb
  obtain ⟨q1, q2⟩ := S (.sums false) (fun _ => trivial) _ _ _ _ _ _ hr g1 k1 e1 e1'
  have hc : (isW A [61] s1 || isW A [60] s1) = (isW B [61] t1 || isW B [60] t1) := by rw [q2.isW (by decide), q2.isW (by decide)]
  rw [← hc] at h2
  split at h1
  ·rename_i hcc
   rw [if_pos hcc] at h2
   dsimp only at h1 h2
   have hk : (look A s1).1.k ≠ 0 := by
    rcases Bool.or_eq_true _ _ ▸ hcc with h | h
    ·exact (isW_good h).2
    ·exact (isW_good h).2
   split at h1
   case h_2 => cases h1
   rename_i x2 s2 g2
   split at h2
   case h_2 => cases h2
   rename_i y2 t2 k2
   injection h1 with h1; injection h1 with r1 r2
   injection h2 with h2; injection h2 with r3 r4
   subst r1; subst r2; subst r3; subst r4
   obtain ⟨q3, q4⟩ := S (.sums false) (fun _ => trivial) _ _ _ _ _ _ (q2.take hk) g2 k2 ea eb
   exact ⟨by rw [q2.look hk, erN_node, erN_node, erL, erL, erL, erL, erL, erL, q1, q3], q4⟩
  ·rename_i hcc
   rw [if_neg hcc] at h2
   exact done q1 q2 h1 h2
 case sums mul =>
  rw [run_sums] at h1 h2
  split at h1
  case h_2 => cases h1
  rename_i x1 s1 g1
  split at h2
  case h_2 => cases h2
  rename_i y1 t1 k1
  have e1 := (run_ok _ _ _ _ _ h1).e0 ea
  have e1' := (run_ok _ _ _ _ _ h2).e0 eb
  have hsub : Sim A B (run A f (if mul = true then .app else .sums true)) (run B g (if mul = true then .app else .sums true)) := by
   cases mul
   ·exact S (.sums true) fun _ => trivial
   ·exact S .app fun _ => trivial
  obtain ⟨q1, q2⟩ := hsub _ _ _ _ _ _ hr g1 k1 e1 e1'
  exact ih g _ _ (.sumLoop mul q1) _ _ _ _ _ _ trivial q2 h1 h2 ea eb
 case sumLoop mul n0 m0 h0 =>
  rw [run_sumLoop] at h1 h2
  have hc := hr.cond (fun t => t.k = 5 ∧ t.t ∈ signsOf mul) (by simp [tZ]) (by cases mul <;> simp [tRp, signsOf])
  by_cases c1 : (look A a).1.k = 5 ∧ (look A a).1.t ∈ signsOf mul
  ·rw [if_pos c1] at h1; rw [if_pos (hc.1 c1)] at h2
   dsimp only at h1 h2
   have hk : (look A a).1.k ≠ 0 := by rw [c1.1]; decide
   split at h1
   case h_2 => cases h1
   rename_i x1 s1 g1
   split at h2
   case h_2 => cases h2
   rename_i y1 t1 k1
   have e1 := (run_ok _ _ _ _ _ h1).e0 ea
   have e1' := (run_ok _ _ _ _ _ h2).e0 eb
   have hsub : Sim A B (run A f (if mul = true then .app else .sums true)) (run B g (if mul = true then .app else .sums true)) := by
    cases mul
    ·exact S (.sums true) fun _ => trivial
    ·exact S .app fun _ => trivial
   obtain ⟨q1, q2⟩ := hsub _ _ _ _ _ _ (hr.take hk) g1 k1 e1 e1'
   exact ih g _ _ (.sumLoop mul (by rw [hr.look hk, erN_node, erN_node, erL, erL, erL, erL, erL, erL, h0, q1])) _ _ _ _ _ _ trivial q2 h1 h2 ea eb
  ·rw [if_neg c1] at h1; rw [if_neg (fun h => c1 (hc.2 h))] at h2
   exact done h0 hr h1 h2
 case app =>
  rw [run_app] at h1 h2
  have hc := hr.cond (fun t => t.k = 6 ∧ (kindOf t.t).1 > 0) (by simp [tZ]) (by simp [tRp])
  by_cases c1 : (look A a).1.k = 6 ∧ (kindOf (look A a).1.t).1 > 0
  ·rw [if_pos c1] at h1; rw [if_pos (hc.1 c1)] at h2
   have hk : (look A a).1.k ≠ 0 := by rw [c1.1]; decide
   rw [← hr.look hk] at h2
   refine ih g (.kidsLoop _ _) (.kidsLoop _ _) ?_ _ _ _ _ _ _ trivial (hr.take hk) h1 h2 ea eb
   exact .kidsLoop _ (by rw [erN_node, erN_node])
  ·rw [if_neg c1] at h1; rw [if_neg (fun h => c1 (hc.2 h))] at h2
   dsimp only at h1 h2
   have h4 := hr.cond (fun t => t.k = 4) (by decide) (by decide)
   have hd : decide ((look A a).1.k = 4) = decide ((look B b).1.k = 4) := by
    by_cases h : (look A a).1.k = 4
    ·rw [decide_eq_true h, decide_eq_true (h4.1 h)]
    ·rw [decide_eq_false h, decide_eq_false (fun h' => h (h4.2 h'))]
   split at h1
   case h_2 => cases h1
   rename_i x1 s1 g1
   split at h2
   case h_2 => cases h2
   rename_i y1 t1 k1
   have e1 := (run_ok _ _ _ _ _ h1).e0 ea
   have e1' := (run_ok _ _ _ _ _ h2).e0 eb
   obtain ⟨q1, q2⟩ := S .atom (fun _ => trivial) _ _ _ _ _ _ hr g1 k1 e1 e1'
   rw [← hd] at h2
   exact ih g _ _ (.appLoop _ q1) _ _ _ _ _ _ trivial q2 h1 h2 ea eb
 case kidsLoop many n0 m0 h0 =>
  rw [run_kidsLoop] at h1 h2
  cases many with
  | zero => exact done h0 hr h1 h2
  | succ many =>
   simp only at h1 h2
   split at h1
   case h_2 => cases h1
   rename_i x1 s1 g1
   split at h2
   case h_2 => cases h2
   rename_i y1 t1 k1
   have e1 := (run_ok _ _ _ _ _ h1).e0 ea
   have e1' := (run_ok _ _ _ _ _ h2).e0 eb
   obtain ⟨q1, q2⟩ := S .atom (fun _ => trivial) _ _ _ _ _ _ hr g1 k1 e1 e1'
   exact ih g _ _ (.kidsLoop _ (er_add h0 q1)) _ _ _ _ _ _ trivial q2 h1 h2 ea eb
 case appLoop bare n0 m0 h0 =>
  rw [run_appLoop] at h1 h2
  rw [← hr.begins] at h2
  split at h1
  ·rename_i hb
   rw [if_pos hb] at h2
   split at h1
   ·rename_i hbare
    rw [if_pos hbare] at h2
    split at h1
    case h_2 => cases h1
    rename_i x1 s1 g1
    split at h2
    case h_2 => cases h2
    rename_i y1 t1 k1
    have e1 := (run_ok _ _ _ _ _ h1).e0 ea
    have e1' := (run_ok _ _ _ _ _ h2).e0 eb
    rw [most_id ((run_ok _ _ _ _ _ g1).e0 e1)] at g1
    rw [most_id ((run_ok _ _ _ _ _ k1).e0 e1')] at k1
    obtain ⟨q1, q2⟩ := S .atom (fun _ => trivial) _ _ _ _ _ _ hr g1 k1 e1 e1'
    exact ih g _ _ (.appLoop _ (er_add h0 q1)) _ _ _ _ _ _ trivial q2 h1 h2 ea eb
   ·rename_i hbare
    rw [if_neg hbare] at h2
    split at h1
    case h_2 => cases h1
    rename_i x1 s1 g1
    split at h2
    case h_2 => cases h2
    rename_i y1 t1 k1
    have e1 := (run_ok _ _ _ _ _ h1).e0 ea
    have e1' := (run_ok _ _ _ _ _ h2).e0 eb
    obtain ⟨q1, q2⟩ := S .atom (fun _ => trivial) _ _ _ _ _ _ hr g1 k1 e1 e1'
    exact ih g _ _ (.appLoop _ (by rw [erN_node, erN_node, erL, erL, erL, erL, erL, erL, h0, q1])) _ _ _ _ _ _ trivial q2 h1 h2 ea eb
  ·rename_i hb
   rw [if_neg hb] at h2
   exact done h0 hr h1 h2
 case matchE =>
  rw [run_matchE] at h1 h2
  dsimp only at h1 h2
  split at h1
  case h_2 => cases h1
  rename_i x1 s1 g1
  split at h1
  case h_2 => cases h1
  rename_i x2 s2 g2
  split at h2
  case h_2 => cases h2
  rename_i y1 t1 k1
  split at h2
  case h_2 => cases h2
  rename_i y2 t2 k2
  injection h1 with h1; injection h1 with r1 r2
  injection h2 with h2; injection h2 with r3 r4
  subst r1; subst r2; subst r3; subst r4
  have e3 := (Ok.must (T := A) wEnd s2).e0 ea
  have e2 := (run_ok _ _ _ _ _ g2).e0 e3
  have e1 := (Ok.must (T := A) wWith s1).e0 e2
  have e3' := (Ok.must (T := B) wEnd t2).e0 eb
  have e2' := (run_ok _ _ _ _ _ k2).e0 e3'
  have e1' := (Ok.must (T := B) wWith t1).e0 e2'
  obtain ⟨q1, q2⟩ := whole_sim ex _ _ _ _ _ _ (hr.take hp) g1 k1 e1 e1'
  obtain ⟨q3, q4⟩ := ih g _ _ (.matchLoop true (by rw [erN_node, erN_node, erL, erL, erL, erL, q1])) _ _ _ _ _ _ trivial (q2.must e2) g2 k2 e3 e3'
  exact ⟨q3, q4.must ea⟩
 case matchLoop first n0 m0 h0 =>
  rw [run_matchLoop] at h1 h2
  have hc : (first || isW A [124] a) = (first || isW B [124] b) := by rw [hr.isW (by decide)]
  rw [← hc] at h2
  split at h1
  ·rename_i hcc
   rw [if_pos hcc] at h2
   split at h1
   case h_2 => cases h1
   rename_i x1 s1 g1
   split at h1
   case h_2 => cases h1
   rename_i x2 s2 g2
   split at h2
   case h_2 => cases h2
   rename_i y1 t1 k1
   split at h2
   case h_2 => cases h2
   rename_i y2 t2 k2
   have e4 := (run_ok _ _ _ _ _ h1).e0 ea
   have e3 := (whole_ok oxa g2).e0 e4
   have e2 := (Ok.must (T := A) wArrow s1).e0 e3
   have e1 := (in_ok (run_ok _ .pat) g1).e0 e2
   have e0 := (Ok.must (T := A) [124] _).e0 e1
   have e4' := (run_ok _ _ _ _ _ h2).e0 eb
   have e3' := (whole_ok oxb k2).e0 e4'
   have e2' := (Ok.must (T := B) wArrow t1).e0 e3'
   have e1' := (in_ok (run_ok _ .pat) k1).e0 e2'
   have e0' := (Ok.must (T := B) [124] _).e0 e1'
   rw [most_id e0] at g1 e1
   rw [most_id e0'] at k1
   obtain ⟨q1, q2⟩ := in_sim (S .pat fun _ => trivial) _ _ _ _ _ _ (hr.must e1) g1 k1 e2 e2'
   obtain ⟨q3, q4⟩ := whole_sim ex _ _ _ _ _ _ (q2.must e3) g2 k2 e4 e4'
   exact ih g _ _ (.matchLoop false (er_add2 h0 q1 q3)) _ _ _ _ _ _ trivial q4 h1 h2 ea eb
  ·rename_i hcc
   rw [if_neg hcc] at h2
   exact done h0 hr h1 h2
 case tryE =>
  rw [run_tryE] at h1 h2
  dsimp only at h1 h2
  split at h1
  case h_2 => cases h1
  rename_i x1 s1 g1
  split at h1
  case h_2 => cases h1
  rename_i x2 s2 g2
  split at h2
  case h_2 => cases h2
  rename_i y1 t1 k1
  split at h2
  case h_2 => cases h2
  rename_i y2 t2 k2
  injection h1 with h1; injection h1 with r1 r2
  injection h2 with h2; injection h2 with r3 r4
  subst r1; subst r2; subst r3; subst r4
  have e6 := (Ok.must (T := A) wEnd s2).e0 ea
  have e5 := (whole_ok oxa g2).e0 e6
  have e4 := (Ok.must (T := A) wArrow _).e0 e5
  have e3 := (Ok.take (T := A) _).e0 e4
  have e2 := (Ok.word (T := A) 3 _).e0 e3
  have e1 := (Ok.must (T := A) wWith s1).e0 e2
  have e6' := (Ok.must (T := B) wEnd t2).e0 eb
  have e5' := (whole_ok oxb k2).e0 e6'
  have e1' := ((((Ok.must (T := B) wWith t1).trans (.word 3 _)).trans (.take _)).trans (.must wArrow _)).e0 e5'
  obtain ⟨q1, q2⟩ := whole_sim ex _ _ _ _ _ _ (hr.take hp) g1 k1 e1 e1'
  have q3 := q2.must e2
  obtain ⟨w1, w2, w3⟩ := q3.word (k := 3) (by decide) e3
  rw [w1] at g2 e5
  rw [w2] at k2
  obtain ⟨q5, q6⟩ := whole_sim ex _ _ _ _ _ _ ((q3.take w3).must e5) g2 k2 e6 e6'
  refine ⟨?_, q6.must ea⟩
  rw [w1, w2, q3.look w3, erN_node, erN_node, erL, erL, erL, erL, erL, erL, q1, q5]
 case atom =>
  rw [run_atom] at h1 h2
  rw [← hr.isW (w := wMatch) (by decide), ← hr.isW (w := wTry) (by decide), ← hr.isW (w := wRetry) (by decide), ← hr.isW (w := [40]) (by decide)] at h2
  by_cases c1 : isW A wMatch a = true
  ·rw [if_pos c1] at h1 h2
   exact ih g _ _ .matchE a b n a' m b' (isW_good c1).2 hr h1 h2 ea eb
  rw [if_neg c1] at h1 h2
  by_cases c2 : isW A wTry a = true
  ·rw [if_pos c2] at h1 h2
   exact ih g _ _ .tryE a b n a' m b' (isW_good c2).2 hr h1 h2 ea eb
  rw [if_neg c2] at h1 h2
  by_cases c3 : isW A wRetry a = true
  ·rw [if_pos c3] at h1 h2
   refine done ?_ (hr.take (isW_good c3).2) h1 h2
   rfl
  rw [if_neg c3] at h1 h2
  by_cases c4 : isW A [40] a = true
  ·rw [if_pos c4] at h1 h2
   dsimp only at h1 h2
   have r1 := hr.take (isW_good c4).2
   by_cases c5 : isW A [41] (takeS A a) = true
   ·have c5' := r1.isW' c5
    rw [if_pos c5] at h1
    rw [if_pos c5'] at h2
    refine done ?_ ?_ h1 h2
    ·rfl
    rw [mayS, mayS, if_pos c5, if_pos c5']
    exact r1.take (isW_good c5).2
   ·rw [if_neg c5] at h1
    split at h1
    case h_2 => cases h1
    rename_i x1 s1 g1
    injection h1 with h1; injection h1 with p1 p2
    subst p1; subst p2
    have e1 := (Ok.must (T := A) [41] s1).e0 ea
    have c5' : isW B [41] (takeS B b) = false := by
     rcases r1.parts with ⟨z1, z2, _⟩ | ⟨z1, z2⟩
     ·have : isW B [41] (takeS B b) = isW A [41] (takeS A a) := by unfold isW; rw [z2]
      rw [this]; simpa using c5
     ·exfalso
      unfold wholeR at g1
      split at g1
      case h_2 => cases g1
      rename_i x9 s9 g9
      injection g1 with g1; injection g1 with _ g1
      have e9 : s9.e = 0 := by rw [← g1] at e1; exact e1
      rcases in_inv (s := { takeS A a with flat := false }) r1.ea g9 with ⟨_, z3⟩ | ⟨_, s2, z3, z4⟩
      ·rw [z3] at e9; exact absurd e9 (fail_e (by decide) _)
      ·rw [z4] at e9
       exact end_exp (A := A) (s := { takeS A a with flat := false, deep := (takeS A a).deep + 1 }) r1.ea z1 z3 e9
    rw [if_neg (by rw [c5']; simp)] at h2
    split at h2
    case h_2 => cases h2
    rename_i y1 t1 k1
    injection h2 with h2; injection h2 with p3 p4
    subst p3; subst p4
    have e1' := (Ok.must (T := B) [41] t1).e0 eb
    obtain ⟨q1, q2⟩ := whole_sim ex _ _ _ _ _ _ r1 g1 k1 e1 e1'
    exact ⟨q1, q2.must ea⟩
  rw [if_neg c4] at h1 h2
  injection h1 with h1
  injection h2 with h2
  have z1 : n = (leaf A leafK a).1 := by rw [h1]
  have z2 : a' = (leaf A leafK a).2 := by rw [h1]
  have z3 : m = (leaf B leafK b).1 := by rw [h2]
  have z4 : b' = (leaf B leafK b).2 := by rw [h2]
  subst z1; subst z2; subst z3; subst z4
  exact leaf_sim leafK rfl hr ea
 case pat =>
  rw [run_pat] at h1 h2
  dsimp only at h1 h2
  have h4 := hr.cond (fun t => t.k = 4) (by decide) (by decide)
  have hd : decide ((look A a).1.k = 4) = decide ((look B b).1.k = 4) := by
   by_cases h : (look A a).1.k = 4
   ·rw [decide_eq_true h, decide_eq_true (h4.1 h)]
   ·rw [decide_eq_false h, decide_eq_false (fun h' => h (h4.2 h'))]
  split at h1
  case h_2 => cases h1
  rename_i x1 s1 g1
  split at h2
  case h_2 => cases h2
  rename_i y1 t1 k1
  have e1 := (run_ok _ _ _ _ _ h1).e0 ea
  have e1' := (run_ok _ _ _ _ _ h2).e0 eb
  obtain ⟨q1, q2⟩ := S .patom (fun _ => trivial) _ _ _ _ _ _ hr g1 k1 e1 e1'
  rw [← hd] at h2
  exact ih g _ _ (.patLoop _ q1) _ _ _ _ _ _ trivial q2 h1 h2 ea eb
 case patLoop c n0 m0 h0 =>
  rw [run_patLoop] at h1 h2
  rw [← hr.patMore] at h2
  split at h1
  ·rename_i hb
   rw [if_pos hb] at h2
   split at h1
   case h_2 => cases h1
   rename_i x1 s1 g1
   split at h2
   case h_2 => cases h2
   rename_i y1 t1 k1
   have e1 := (run_ok _ _ _ _ _ h1).e0 ea
   have e1' := (run_ok _ _ _ _ _ h2).e0 eb
   rw [most_id ((run_ok _ _ _ _ _ g1).e0 e1)] at g1
   rw [most_id ((run_ok _ _ _ _ _ k1).e0 e1')] at k1
   obtain ⟨q1, q2⟩ := S .patom (fun _ => trivial) _ _ _ _ _ _ hr g1 k1 e1 e1'
   exact ih g _ _ (.patLoop _ (er_add h0 q1)) _ _ _ _ _ _ trivial q2 h1 h2 ea eb
  ·rename_i hb
   rw [if_neg hb] at h2
   exact done h0 hr h1 h2
 case patom =>
  rw [run_patom] at h1 h2
  rw [← hr.isW (w := [95]) (by decide), ← hr.isW (w := [40]) (by decide)] at h2
  by_cases c1 : isW A [95] a = true
  ·rw [if_pos c1] at h1 h2
   refine done ?_ (hr.may (by decide)) h1 h2
   rfl
  rw [if_neg c1] at h1 h2
  by_cases c2 : isW A [40] a = true
  ·rw [if_pos c2] at h1 h2
   exact round_sim (run_ok _ .pat) (run_ok _ .pat) (S .pat fun _ => trivial) _ _ _ _ _ _ hr h1 h2 ea eb
  rw [if_neg c2] at h1 h2
  injection h1 with h1
  injection h2 with h2
  have z1 : n = (leaf A patK a).1 := by rw [h1]
  have z2 : a' = (leaf A patK a).2 := by rw [h1]
  have z3 : m = (leaf B patK b).1 := by rw [h2]
  have z4 : b' = (leaf B patK b).2 := by rw [h2]
  subst z1; subst z2; subst z3; subst z4
  exact leaf_sim patK rfl hr ea
end
section
variable {T : List Tok}
theorem app_atomN {f : Nat} {s s' : PS} {n : Nd} (hk : plainK (look T s).1) (hr : run T f .app s = some (n, s')) : ∃ f1 n1 s1, run T f1 .atom s = some (n1, s1) ∧ (stp T s1 → n = n1 ∧ s' = s1) := by
 cases f with
 | zero => cases hr
 | succ f =>
 rw [run_app, if_neg (fun h => hk ⟨h.1, .inr (.inr (.inr h.2))⟩)] at hr
 dsimp only at hr
 split at hr
 ·rename_i n1 s1 h1
  refine ⟨f, n1, s1, h1, fun hs => ?_⟩
  cases f with
  | zero => cases hr
  | succ f =>
   rw [run_appLoop, if_neg (by rw [stp_begins hs]; simp)] at hr
   injection hr with hr; injection hr with hn hr; exact ⟨hn.symm, hr.symm⟩
 ·cases hr
theorem sums_atomN {f : Nat} {mul : Bool} {s s' : PS} {n : Nd} (hk : plainK (look T s).1) (hr : run T f (.sums mul) s = some (n, s')) : ∃ f1 n1 s1, run T f1 .atom s = some (n1, s1) ∧ (stp T s1 → n = n1 ∧ s' = s1) := by
 have key : ∀ (f : Nat) (mul : Bool) (n : Nd) (s' : PS), (∀ f n s', run T f (if mul then .app else .sums true) s = some (n, s') → ∃ f1 n1 s1, run T f1 .atom s = some (n1, s1) ∧ (stp T s1 → n = n1 ∧ s' = s1)) → run T f (.sums mul) s = some (n, s') → ∃ f1 n1 s1, run T f1 .atom s = some (n1, s1) ∧ (stp T s1 → n = n1 ∧ s' = s1) := by
  intro f mul n s' hsub hr
  cases f with
  | zero => cases hr
  | succ f =>
  rw [run_sums] at hr
  split at hr
  ·rename_i n1 s1 h1
   obtain ⟨f1, n2, s2, h2, h3⟩ := hsub _ _ _ h1
   refine ⟨f1, n2, s2, h2, fun hs => ?_⟩
   obtain ⟨en, e⟩ := h3 hs
   subst e; subst en
   cases f with
   | zero => cases hr
   | succ f =>
    rw [run_sumLoop, if_neg (stp_sign hs mul)] at hr
    injection hr with hr; injection hr with hn hr; exact ⟨hn.symm, hr.symm⟩
  ·cases hr
 have ktrue : ∀ f n s', run T f (.sums true) s = some (n, s') → ∃ f1 n1 s1, run T f1 .atom s = some (n1, s1) ∧ (stp T s1 → n = n1 ∧ s' = s1) := fun f n s' hr => key f true n s' (fun f n s' h => app_atomN hk h) hr
 cases mul with
 | true => exact ktrue _ _ _ hr
 | false => exact key f false n s' (fun f n s' h => ktrue f n s' h) hr
theorem exp_atomN {f : Nat} {s s' : PS} {n : Nd} (hk : plainK (look T s).1) (hr : run T f .exp s = some (n, s')) : ∃ f1 n1 s1, run T f1 .atom s = some (n1, s1) ∧ (stp T s1 → n = n1 ∧ s' = s1) := by
 cases f with
 | zero => cases hr
 | succ f =>
 rw [run_exp, if_neg (fun h => hk ⟨h.1, .inl h.2⟩), if_neg (fun h => hk ⟨h.1, .inr (.inl h.2)⟩), if_neg (fun h => hk ⟨h.1, .inr (.inr (.inl h.2))⟩)] at hr
 split at hr
 ·rename_i n1 s1 h1
  have hc : ∃ f1 n2 s2, run T f1 .atom s = some (n2, s2) ∧ (stp T s2 → n1 = n2 ∧ s1 = s2) := by
   cases f with
   | zero => cases h1
   | succ f =>
   rw [run_cmp] at h1
   split at h1
   ·rename_i n2 s2 h2
    obtain ⟨f1, n3, s3, h3, h4⟩ := sums_atomN hk h2
    refine ⟨f1, n3, s3, h3, fun hs => ?_⟩
    obtain ⟨en, e⟩ := h4 hs
    subst e; subst en
    rw [if_neg (by rw [stp_isW hs _ (by decide), stp_isW hs _ (by decide)]; simp)] at h1
    injection h1 with h1; injection h1 with hn h1; exact ⟨hn.symm, h1.symm⟩
   ·cases h1
  obtain ⟨f1, n2, s2, h2, h3⟩ := hc
  refine ⟨f1, n2, s2, h2, fun hs => ?_⟩
  obtain ⟨en, e⟩ := h3 hs
  subst e; subst en
  rw [if_neg (by rw [stp_isW hs _ (by decide)]; simp)] at hr
  injection hr with hr; injection hr with hn hr; exact ⟨hn.symm, hr.symm⟩
 ·cases hr
/-- No exp begins with the end, or with a bracket that closes. -/
theorem bad_exp {f : Nat} {s s' : PS} {n : Nd} (hl : (look T s).1 = tZ ∨ (((look T s).1.k = 5 ∨ (look T s).1.k = 6) ∧ (look T s).1.t = [41])) (hr : run T f .exp s = some (n, s')) : s'.e ≠ 0 := by
 have hp : plainK (look T s).1 := by
  rcases hl with hl | hl
  ·rw [hl]; exact fun h => absurd h.1 (by decide)
  ·exact fun h => by rw [hl.2] at h; rcases h.2 with h | h | h | h <;> exact absurd h (by decide)
 obtain ⟨f1, n1, s1, h1, h2⟩ := exp_atom hp hr
 cases f1 with
 | zero => cases h1
 | succ f1 =>
 rw [run_atom] at h1
 have e : ∀ w, w ≠ [41] → isW T w s = false := fun w hw => by
  rcases hl with hl | hl
  ·simp [isW, hl, tZ]
  ·simp [isW, hl.2]; exact fun _ e => hw e.symm
 rw [if_neg (by rw [e _ (by decide)]; simp), if_neg (by rw [e _ (by decide)]; simp), if_neg (by rw [e _ (by decide)]; simp), if_neg (by rw [e _ (by decide)]; simp)] at h1
 injection h1 with h1
 have h3 : s1 = fail T 14 s := by
  have : s1 = (leaf T leafK s).2 := by rw [h1]
  rw [this, leaf]
  rcases hl with hl | hl
  ·rw [hl, if_pos (by rfl)]
  ·rcases hl.1 with h | h
   ·rw [h, if_pos (by rfl)]
   ·rw [h, if_pos (by rfl)]
 have h4 : s1.e ≠ 0 := by rw [h3]; exact fail_e (by decide) _
 rw [h2 (stp_bad h4)]; exact h4
theorem prog_parts {f : Nat} {l : List Tk} {n : Nd} {q : PS} (hi : Inv T ps0) (hc : Cur T ps0 (tDo :: l)) (hr : run T f .program ps0 = some (n, q)) (he : q.e = 0) :
  ∃ f1 S x s3, Cur T S l ∧ S.flat = false ∧ S.deep = 0 ∧ Inv T S ∧ run T f1 .exp { S with deep := S.deep + 1 } = some (x, s3) ∧ s3.e = 0 ∧ (look T s3).1.k = 0 ∧ erN n = node 30 0 [] [erN x] := by
 cases f with
 | zero => cases hr
 | succ f =>
 rw [run_program] at hr
 split at hr
 case h_2 => cases hr
 rename_i n1 s1 h1
 split at hr
 case h_2 => cases hr
 rename_i n2 s2 h2
 injection hr with hr; injection hr with hn hr
 have e1 : n1 = node 30 (look T ps0).2 [] [] ∧ s1 = ps0 := by
  cases f with
  | zero => cases h1
  | succ f =>
   rw [run_declLoop, if_neg (by rw [hc.isW, hc.isW]; decide)] at h1
   injection h1 with h1; injection h1 with g1 h1; exact ⟨g1.symm, h1.symm⟩
 obtain ⟨en, e1⟩ := e1
 subst e1
 have hc1 := hc.must (w := wDo) (by rw [hc.isW]; rfl) (by decide)
 have hk : (look T s2).1.k = 0 := by
  apply Classical.byContradiction
  intro hk
  rw [if_pos hk] at hr
  rw [← hr] at he
  exact fail_e (by decide) _ he
 rw [if_neg (by simpa using hk)] at hr
 have e2 : s2.e = 0 := by rw [hr]; exact he
 rcases in_inv hc1.1 h2 with ⟨q1, q2⟩ | ⟨q1, s3, q2, q3⟩
 ·rw [q2] at e2; exact absurd e2 (fail_e (by decide) _)
 refine ⟨f, mustS T wDo ps0, n2, s3, hc1, by rw [must_flat]; rfl, by rw [must_deep]; rfl, hi.must _, q2, by rw [q3] at e2; exact e2, by rw [q3] at hk; exact hk, ?_⟩
 rw [← hn, en, erN_add, erN_node]; rfl
end
theorem Lx.as {l : List UInt8} {i : Nat} {L : List (Tk × Nat)} (h : Lx l i L) : LexAs l (L.map (·.1)) := by
 induction h with
 | done h1 => exact fun i => ⟨[], .done h1, rfl⟩
 | @tok l i t n L h1 h2 h3 ih =>
  intro j
  obtain ⟨L', g1, g2⟩ := ih (j + skipM false l + n)
  exact ⟨_, .tok h1 h2 g1, by simp [g2]⟩
theorem LexAs.unblank {r : List UInt8} {R : List Tk} (h : LexAs (32 :: r) R) : LexAs r R := by
 obtain ⟨L, h1, h2⟩ := h 0
 have hs : skipM false (32 :: r) = 1 + skipM false r := by simp [skipM]
 have hd : (32 :: r).drop (skipM false (32 :: r)) = r.drop (skipM false r) := by rw [hs, Nat.add_comm, List.drop_succ_cons]
 cases h1 with
 | done g1 =>
  rw [← h2]
  exact (Lx.done (i := 0) (by rw [hs] at g1; simp at g1; omega)).as
 | tok g1 g2 g3 =>
  rw [hd] at g1 g2 g3
  rw [← h2]
  obtain ⟨L', k1, k2⟩ := g3.as (0 + skipM false r + _)
  have := (Lx.tok (i := 0) g1 g2 k1).as
  simp only [List.map_cons, k2] at this ⊢
  exact this
theorem LexAs.snoc {r : List UInt8} {R M : List Tk} (h : LexAs r R) {m : List UInt8} (hm : LexAs m M) : LexAs (r ++ 10 :: m) (R ++ M) := by
 intro i
 obtain ⟨L, h1, h2⟩ := h i
 obtain ⟨L', g1, g2⟩ := hm (i + r.length + 1)
 exact ⟨L ++ L', h1.nl.app r m L' rfl g1, by rw [List.map_append, h2, g2]⟩
/-- The law, plainly. -/
theorem brackets_same (s : List UInt8) (hs : s.length ≤ 300) (ha : (progR ([100, 111, 32] ++ s)).2.2 = 0) (hb : (progR ([100, 111, 32, 40] ++ s ++ [10, 41])).2.2 = 0) :
  erN (progR ([100, 111, 32] ++ s)).1 = erN (progR ([100, 111, 32, 40] ++ s ++ [10, 41])).1 := by
 obtain ⟨ta, _, qa, ra, ea⟩ := progR_good ha
 obtain ⟨tb, _, qb, rb, eb⟩ := progR_good hb
 -- the tokens there
 obtain ⟨L, hL, xL⟩ := Toks_lx ta
 obtain ⟨_, l, hl, hrise⟩ := (Toks_rise _).2 ta
 have hlL : l = L := by rw [hL] at hl; exact (List.append_inj_left' hl rfl).symm
 subst hlL
 have hA : ∃ R, (Toks ([100, 111, 32] ++ s)).1.map (·.1) = tDo :: (R ++ [tZ]) ∧ LexAs (32 :: s) R ∧ ∀ t ∈ R, t.k ≠ 0 := by
  have hk0 : ∀ t ∈ l.map (·.1), t.k ≠ 0 := by
   intro t ht
   obtain ⟨p, hp, rfl⟩ := List.mem_map.1 ht
   obtain ⟨j, hj⟩ := List.mem_iff_getElem?.1 hp
   exact (hrise j p hj).1
  have h0 : skipM false ([100, 111, 32] ++ s) = 0 := by simp [skipM]
  cases xL with
  | done g1 => rw [h0] at g1; simp at g1
  | @tok _ _ t n L g1 g2 g3 =>
   rw [h0, List.drop_zero] at g2 g3
   have : tokP ([100, 111, 32] ++ s) = (0, tDo, 2) := by kernel_rfl
   rw [this] at g2
   injection g2 with _ g2; injection g2 with g4 g5
   subst g4; subst g5
   have g3' : LexAs (32 :: s) (L.map (fun p : Tk × Nat => p.1)) := g3.as
   refine ⟨L.map (fun p : Tk × Nat => p.1), ?_, g3', fun t ht => hk0 t (by rw [List.map_cons]; exact List.mem_cons_of_mem _ ht)⟩
   rw [hL]; simp [tZ]
 obtain ⟨R, kA, xR, hR⟩ := hA
 -- the tokens here
 have xB : LexAs ([100, 111, 32, 40] ++ s ++ [10, 41]) (tDo :: tLp :: (R ++ [tRp])) := by
  have h1 : LexAs (32 :: s ++ 10 :: [41]) (R ++ [tRp]) := xR.snoc (lex_rp .nil)
  have h2 : LexAs (s ++ [10, 41]) (R ++ [tRp]) := LexAs.unblank h1
  have := lex_do (lex_lp h2)
  simpa using this
 obtain ⟨_, kB⟩ := xB.toks (by simp; omega)
 have iA := toks_inv ta
 have iB := toks_inv tb
 generalize (Toks ([100, 111, 32] ++ s)).1 = TA at ra kA iA
 generalize (Toks ([100, 111, 32, 40] ++ s ++ [10, 41])).1 = TB at rb kB iB
 have cA : Cur TA ps0 (tDo :: (R ++ [tZ])) := ⟨rfl, kA⟩
 have cB : Cur TB ps0 (tDo :: (tLp :: (R ++ [tRp, tZ]))) := ⟨rfl, by rw [ps0, kB]; simp [tZ]⟩
 obtain ⟨f1, SA, x, sA, a1, a2, a3, a4, a5, a6, a7, a8⟩ := prog_parts iA cA ra ea
 obtain ⟨g1, SB, y, sB, b1, b2, b3, b4, b5, b6, b7, b8⟩ := prog_parts iB cB rb eb
 rw [a8, b8]
 have a1' : Cur TA { SA with deep := SA.deep + 1 } (R ++ [tZ]) := a1.same rfl rfl
 have b1' : Cur TB { SB with deep := SB.deep + 1 } (tLp :: (R ++ [tRp, tZ])) := b1.same rfl rfl
 -- here the exp is a bracket
 obtain ⟨h1, n1, s1, q1, q2⟩ := exp_atomN (by rw [b1'.look]; exact fun h => absurd h.1 (by decide)) b5
 have e1 : s1.e = 0 := by
  apply Classical.byContradiction
  intro he
  have := (q2 (stp_bad he)).2
  rw [this] at b6; exact he b6
 cases h1 with
 | zero => cases q1
 | succ h1 =>
 have e : ∀ w, isW TB w { SB with deep := SB.deep + 1 } = decide ([40] = w) := fun w => by rw [b1'.isW]; rfl
 rw [run_atom, if_neg (by rw [e]; decide), if_neg (by rw [e]; decide), if_neg (by rw [e]; decide), if_pos (by rw [e]; decide)] at q1
 dsimp only at q1
 have c1 := b1'.take (by decide)
 have cfl : (takeS TB { SB with deep := SB.deep + 1 }).flat = false := by rw [take_flat]; exact b2
 generalize takeS TB { SB with deep := SB.deep + 1 } = U at q1 c1 cfl
 have hnot : isW TB [41] U = false := by
  cases hR' : R with
  | nil =>
   rw [hR'] at a1'
   exact absurd a6 (bad_exp (.inl (Cur.look (t := tZ) (r := []) a1')) a5)
  | cons t R' =>
   rw [hR'] at a1' c1
   have la : (look TA { SA with deep := SA.deep + 1 }).1 = t := Cur.look (r := R' ++ [tZ]) a1'
   rw [Cur.isW (t := t) (r := R' ++ [tRp, tZ]) c1]
   cases h5 : ((decide (t.k = 5) || decide (t.k = 6)) && decide (t.t = [41]))
   ·rfl
   ·exfalso
    simp only [Bool.and_eq_true, Bool.or_eq_true, decide_eq_true_eq] at h5
    exact bad_exp (.inr ⟨by rw [la]; exact h5.1, by rw [la]; exact h5.2⟩) a5 a6
 rw [if_neg (by rw [hnot]; simp)] at q1
 split at q1
 case h_2 => cases q1
 rename_i n2 s2 q3
 injection q1 with q1; injection q1 with q4 q5
 subst q4
 have e2 := (Ok.must (T := TB) [41] s2).e0 (by rw [q5]; exact e1)
 rcases whole_inv c1.1 cfl q3 with ⟨_, z1, _⟩ | ⟨_, s3, z1, z2⟩
 ·rw [e2] at z1; exact absurd z1 (by decide)
 have e3 : s3.e = 0 := by rw [z2] at e2; exact e2
 have rel : Rel TA TB { SA with deep := SA.deep + 1 } { U with deep := U.deep + 1 } := ⟨a1.1, c1.1, by simp only; rw [a2, cfl], R, a1.2, c1.2, hR⟩
 obtain ⟨y1, y2⟩ := run_sim f1 h1 .exp .exp .exp _ _ _ _ _ _ trivial rel a5 z1 a6 e3
 obtain ⟨Q, w1, w2, w3⟩ := y2.q
 cases Q with
 | cons t Q =>
  have : (look TA sA).1 = t := Cur.look (T := TA) (s := sA) (t := t) (r := Q ++ [tZ]) ⟨a6, w1⟩
  rw [this] at a7
  exact absurd a7 (w3 t List.mem_cons_self)
 | nil =>
  have c3 : Cur TB s2 (tRp :: [tZ]) := by rw [z2]; exact Cur.same (s := s3) ⟨e3, w2⟩ rfl rfl
  have c4 : Cur TB s1 [tZ] := by rw [← q5]; exact c3.must (by rw [c3.isW]; rfl) (by decide)
  rw [(q2 (c4.stp (.inl rfl))).1, y1]
end Go.Proofs.YtdohdncgjendkaaDoor
