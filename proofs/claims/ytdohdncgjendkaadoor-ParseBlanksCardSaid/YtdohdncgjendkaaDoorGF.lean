/- Two sources, one behind the other. Tokens that are cut out of a source. A source's tokens, each on its own line. ParseBlanks: the walk. -/
import Derived.Test.YtdohdncgjendkaaDoorFB
import Derived.Test.YtdohdncgjendkaaDoorGD
import Derived.Test.YtdohdncgjendkaaDoorGC
set_option linter.unusedVariables false
set_option linter.unusedSimpArgs false
namespace Go.Proofs.YtdohdncgjendkaaDoor
open Abs Go.RowKit
/-- A source's tokens but for the end, from a place on. -/
inductive Lx : List UInt8 → Nat → List (Tk × Nat) → Prop
 | done {l : List UInt8} {i : Nat} : skipM false l = l.length → Lx l i []
 | tok {l : List UInt8} {i : Nat} {t : Tk} {n : Nat} {L : List (Tk × Nat)} : l.drop (skipM false l) ≠ [] → tokP (l.drop (skipM false l)) = (0, t, n) → Lx ((l.drop (skipM false l)).drop n) (i + skipM false l + n) L → Lx l i ((t, i + skipM false l) :: L)
theorem Lx.shift {l : List UInt8} {i : Nat} {L : List (Tk × Nat)} (d : Nat) (h : Lx l i L) : Lx l (i + d) (L.map fun p => (p.1, p.2 + d)) := by
 induction h with
 | done h1 => exact .done h1
 | @tok l i t n L h1 h2 h3 ih =>
  have := Lx.tok (i := i + d) h1 h2 (by rw [show i + d + skipM false l + n = i + skipM false l + n + d by omega]; exact ih)
  rw [List.map_cons]
  rw [show i + d + skipM false l = i + skipM false l + d by omega] at this
  exact this
theorem tok_k {l : List UInt8} (h : l ≠ []) (he : (tokP l).1 = 0) : (tokP l).2.1.k ≠ 0 := fun e => h ((tokP_len l he).2.1 e)
theorem toksP_lx (s : List UInt8) : ∀ (f i : Nat) (acc : List (Tk × Nat)), s.length + 1 - i ≤ f → i ≤ s.length → (toksP s f i acc).2.2 = 0 → ∃ L, (toksP s f i acc).1 = acc ++ L ++ [((⟨0, [], 0⟩ : Tk), s.length)] ∧ Lx (s.drop i) i L := by
 intro f
 induction f with
 | zero => intro i acc hf hi; omega
 | succ f ih =>
  intro i acc hf hi he
  have hsk := skipM_le false (s.drop i)
  rw [List.length_drop] at hsk
  have hdd : (s.drop i).drop (skipM false (s.drop i)) = s.drop (i + skipM false (s.drop i)) := by rw [List.drop_drop]
  have htl := tokP_len (s.drop (i + skipM false (s.drop i)))
  rw [List.length_drop] at htl
  simp only [toksP] at he ⊢
  split at he
  ·rename_i h1; exact absurd he h1
  ·rename_i h1
   rw [if_neg h1]
   obtain ⟨g1, g2, g3⟩ := htl (by simpa using h1)
   split at he
   ·rename_i hk
    rw [if_pos hk]
    have hd := g2 hk
    have hl : i + skipM false (s.drop i) = s.length := by
     have := congrArg List.length hd
     simp at this; omega
    refine ⟨[], ?_, .done (by rw [List.length_drop]; omega)⟩
    rw [hl, List.drop_length]; simp [tokP]
   ·rename_i hk
    rw [if_neg hk]
    have hne : s.drop (i + skipM false (s.drop i)) ≠ [] := by
     intro e0; rw [e0] at hk; simp [tokP] at hk
    have := g3 hne
    obtain ⟨L, hL, hx⟩ := ih _ _ (by omega) (by omega) he
    refine ⟨_ :: L, ?_, Lx.tok (t := (tokP (s.drop (i + skipM false (s.drop i)))).2.1) (n := (tokP (s.drop (i + skipM false (s.drop i)))).2.2) (by rw [hdd]; exact hne) ?_ ?_⟩
    ·rw [hL]; simp
    ·rw [hdd]
     have h1' : (tokP (s.drop (i + skipM false (s.drop i)))).1 = 0 := by simpa using h1
     rw [← h1']
    ·rw [hdd, List.drop_drop]; exact hx
theorem lx_toksP (s : List UInt8) : ∀ (f i : Nat) (acc L : List (Tk × Nat)), s.length + 1 - i ≤ f → i ≤ s.length → Lx (s.drop i) i L → toksP s f i acc = (acc ++ L ++ [((⟨0, [], 0⟩ : Tk), s.length)], 0, 0) := by
 intro f
 induction f with
 | zero => intro i acc L hf hi; omega
 | succ f ih =>
  intro i acc L hf hi hx
  have hdd : (s.drop i).drop (skipM false (s.drop i)) = s.drop (i + skipM false (s.drop i)) := by rw [List.drop_drop]
  have htl := tokP_len (s.drop (i + skipM false (s.drop i)))
  rw [List.length_drop] at htl
  simp only [toksP]
  generalize hl : s.drop i = l at *
  cases hx with
  | done h1 =>
   have : s.drop (i + skipM false l) = [] := by rw [List.drop_eq_nil_iff, h1, ← hl, List.length_drop]; omega
   have h2 : i + skipM false l = s.length := by rw [h1, ← hl, List.length_drop]; omega
   rw [this, h2]; simp [tokP]
  | @tok _ _ t n L h1 h2 h3 =>
   rw [hdd] at h1 h2 h3
   rw [h2] at htl ⊢
   obtain ⟨g1, g2, g3⟩ := htl rfl
   have hk : t.k ≠ 0 := fun e => h1 (g2 e)
   have := g3 h1
   simp only at g1 this
   rw [if_neg (by simp)]
   simp only
   rw [if_neg hk]
   have hlt : i + skipM false l < s.length := by
    rcases Nat.lt_or_ge (i + skipM false l) s.length with h' | h'
    ·exact h'
    ·exact absurd (List.drop_eq_nil_of_le h') h1
   rw [ih (i + skipM false l + n) _ L (by omega) (by omega) (by rw [← List.drop_drop]; exact h3)]
   simp
theorem Toks_lx {s : List UInt8} (h : (Toks s).2.2 = 0) : ∃ L, Toks s = (L ++ [((⟨0, [], 0⟩ : Tk), s.length)], 0, 0) ∧ Lx s 0 L := by
 have hp := (Toks_rise s).2 h
 unfold Toks at h ⊢
 unfold Toks at hp
 split at h
 ·simp at h
 ·rename_i h1
  rw [if_neg h1] at hp ⊢
  obtain ⟨L, hL, hx⟩ := toksP_lx s _ 0 [] (by omega) (Nat.zero_le _) h
  refine ⟨L, ?_, by simpa using hx⟩
  generalize toksP s (s.length + 1) 0 [] = p at *
  obtain ⟨p1, p2, p3⟩ := p
  simp only at h hL hp
  obtain ⟨hp1, _⟩ := hp
  rw [h, hL, hp1]; simp
theorem lx_Toks {s : List UInt8} {L : List (Tk × Nat)} (hl : s.length ≤ 2000) (h : Lx s 0 L) : Toks s = (L ++ [((⟨0, [], 0⟩ : Tk), s.length)], 0, 0) := by
 rw [Toks, if_neg (by omega), lx_toksP s _ 0 [] L (by omega) (Nat.zero_le _) (by simpa using h)]
 simp
/-! ### A line's end parts -/
theorem takeWhile_line {p : UInt8 → Bool} (hp : p 10 = false) : ∀ (l r : List UInt8), (l ++ 10 :: r).takeWhile p = l.takeWhile p
 | [], r => by rw [List.nil_append, List.takeWhile_cons, if_neg (by simp [hp])]; rfl
 | b :: l, r => by
  rw [List.cons_append, List.takeWhile_cons, List.takeWhile_cons, takeWhile_line hp l r]
theorem hexStep_line : ∀ (k n : Nat) (w r : List UInt8), hexStep k n (w ++ 10 :: r) = hexStep k n (w ++ [10]) ∧ ((hexStep k n (w ++ [10])).1 = 0 → k ≤ w.length)
 | 0, n, w, r => ⟨by simp [hexStep], fun _ => Nat.zero_le _⟩
 | k + 1, n, [], r => by
  have : hexV 10 = none := rfl
  simp [hexStep, this]
 | k + 1, n, a :: w, r => by
  rw [List.cons_append, List.cons_append, hexStep, hexStep]
  cases hexV a with
  | none => exact ⟨rfl, fun e => by simp at e⟩
  | some y =>
   obtain ⟨h1, h2⟩ := hexStep_line k (16 * n + y) w r
   exact ⟨h1, fun e => by have := h2 e; simp; omega⟩
theorem escP_line (w r : List UInt8) : escP (w ++ 10 :: r) = escP (w ++ [10]) ∧ ((escP (w ++ [10])).1 = 0 → (escP (w ++ [10])).2.2 ≤ w.length) := by
 cases w with
 | nil => exact ⟨rfl, fun e => by simp [escP] at e⟩
 | cons c w =>
  simp only [List.cons_append, escP]
  split
  ·simp
  ·split
   ·simp
   ·split
    ·simp
    ·split
     ·simp
     ·obtain ⟨h1, h2⟩ := hexStep_line 2 0 w r
      refine ⟨h1, fun e => ?_⟩
      have := h2 e
      have h3 := (hexStep_ok 2 0 _ e).2
      rw [h3]; simp; omega
theorem unqK_line : ∀ (w : List UInt8) (k : Nat) (acc : List UInt8) (a : Nat) (r : List UInt8), k ≤ w.length → unqK (w ++ 10 :: r) k acc a = unqK (w ++ [10]) k acc a ∧ ((unqK (w ++ [10]) k acc a).2.2 = 0 → (unqK (w ++ [10]) k acc a).2.1 ≤ a + w.length)
 | [], 0, acc, a, r, hk => by simp [unqK]
 | [], k + 1, acc, a, r, hk => by simp at hk
 | c :: w, k + 1, acc, a, r, hk => by
  rw [List.cons_append, List.cons_append, unqK, unqK]
  obtain ⟨h1, h2⟩ := unqK_line w k acc a r (by simpa using hk)
  exact ⟨h1, fun e => by have := h2 e; simp; omega⟩
 | c :: w, 0, acc, a, r, hk => by
  obtain ⟨e1, e2⟩ := escP_line w r
  simp only [List.cons_append, unqK, e1]
  split
  ·simp
  ·split
   ·split
    ·simp
    ·first | (simp; done) | (simp; omega)
   ·split
    ·split
     ·rename_i h3; exact ⟨rfl, fun e => absurd e h3⟩
     ·rename_i h3
      have h4 := e2 (by simpa using h3)
      obtain ⟨h1, h2⟩ := unqK_line w (escP (w ++ [10])).2.2 (acc ++ [(escP (w ++ [10])).2.1]) (a + 1 + (escP (w ++ [10])).2.2) r h4
      refine ⟨h1, fun e => ?_⟩
      have hb := h2 e
      rw [unqK_drop] at hb e
      have e5 : (w ++ [10]).drop (escP (w ++ [10])).2.2 = w.drop (escP (w ++ [10])).2.2 ++ [10] := by rw [List.drop_append_of_le_length h4]
      rw [e5] at hb e
      have := (unqK_line (w.drop (escP (w ++ [10])).2.2) 0 (acc ++ [(escP (w ++ [10])).2.1]) (a + 1 + (escP (w ++ [10])).2.2) r (Nat.zero_le _)).2 e
      rw [unqK_drop, e5]
      simp at this ⊢; omega
    ·split
     ·simp
     ·obtain ⟨h1, h2⟩ := unqK_line w 0 (acc ++ [c]) (a + 1) r (Nat.zero_le _)
      exact ⟨h1, fun e => by have := h2 e; simp; omega⟩
termination_by w => w.length
theorem tokP_line (c : UInt8) (w r : List UInt8) : tokP (c :: (w ++ 10 :: r)) = tokP (c :: (w ++ [10])) ∧ ((tokP (c :: (w ++ [10]))).1 = 0 → c ≠ 10 → (tokP (c :: (w ++ [10]))).2.2 ≤ w.length + 1) := by
 have t1 : ∀ r, (c :: (w ++ 10 :: r)).takeWhile digitB = (c :: w).takeWhile digitB := fun r => takeWhile_line (p := digitB) rfl (c :: w) r
 have t2 : ∀ r, (c :: (w ++ 10 :: r)).takeWhile innerB = (c :: w).takeWhile innerB := fun r => takeWhile_line (p := innerB) rfl (c :: w) r
 have t3 : unq (c :: (w ++ 10 :: r)) = unq (c :: (w ++ [10])) := by
  simp only [unq]
  rw [(unqK_line w 0 [] 1 r (Nat.zero_le _)).1]
 have t4 : (c :: (w ++ 10 :: r)).take 2 = (c :: (w ++ [10])).take 2 := by cases w <;> rfl
 have t5 : (c :: (w ++ 10 :: r)).take 1 = (c :: (w ++ [10])).take 1 := rfl
 have l1 := takeWhile_len digitB (c :: w)
 have l2 := takeWhile_len innerB (c :: w)
 refine ⟨by simp only [tokP, t1, t2, t3, t4, t5], fun he hc => ?_⟩
 simp only [tokP, t1, t2] at he ⊢
 split
 ·rename_i h1
  rw [if_pos h1] at he
  split
  ·simpa using l1
  ·simp
 ·rename_i h1
  rw [if_neg h1] at he
  split
  ·rename_i h2
   rw [if_pos h2] at he
   split
   ·rename_i h3
    have : unq (c :: (w ++ [10])) = unqK (w ++ [10]) 0 [] 1 := by rw [unq, if_neg (by simp [h2])]
    rw [this] at h3 ⊢
    have := (unqK_line w 0 [] 1 r (Nat.zero_le _)).2 h3
    simp only; omega
   ·simp
  ·split
   ·split
    ·simp
    ·simpa using l2
   ·split
    ·split
     ·rename_i h5
      cases w with
      | nil => simp at h5
      | cons b w => simp
     ·simp
    ·simp
theorem skipM_line2 : ∀ (u r : List UInt8) (b : Bool), (skipM b (u ++ [10]) ≤ u.length → skipM b (u ++ 10 :: r) = skipM b (u ++ [10])) ∧ (skipM b (u ++ [10]) = u.length + 1 → skipM b (u ++ 10 :: r) = u.length + 1 + skipM false r)
 | [], r, b => by cases b <;> simp [skipM]
 | c :: u, r, true => by
  have i1 := skipM_line2 u r true
  have i2 := skipM_line2 u r false
  simp only [List.cons_append, skipM, List.length_cons]
  split
  ·exact ⟨fun h => by rw [i2.1 (by omega)], fun h => by rw [i2.2 (by omega)]; omega⟩
  ·exact ⟨fun h => by rw [i1.1 (by omega)], fun h => by rw [i1.2 (by omega)]; omega⟩
 | c :: u, r, false => by
  have i1 := skipM_line2 u r true
  have i2 := skipM_line2 u r false
  simp only [List.cons_append, skipM, List.length_cons]
  split
  ·exact ⟨fun h => by rw [i2.1 (by omega)], fun h => by rw [i2.2 (by omega)]; omega⟩
  ·split
   ·exact ⟨fun h => by rw [i1.1 (by omega)], fun h => by rw [i1.2 (by omega)]; omega⟩
   ·exact ⟨fun _ => rfl, fun h => by omega⟩
theorem Lx.ahead {g t : List UInt8} (hg : ∀ t, skipM false (g ++ t) = g.length + skipM false t) {i : Nat} {L : List (Tk × Nat)} (h : Lx t (i + g.length) L) : Lx (g ++ t) i L := by
 have hd : (g ++ t).drop (skipM false (g ++ t)) = t.drop (skipM false t) := by rw [hg, ← List.drop_drop, List.drop_left]
 cases h with
 | done h1 => exact .done (by rw [hg, h1, List.length_append])
 | tok h1 h2 h3 =>
  have := Lx.tok (l := g ++ t) (i := i) (by rw [hd]; exact h1) (by rw [hd]; exact h2) (by rw [hd, hg, ← Nat.add_assoc]; exact h3)
  rw [hg, ← Nat.add_assoc] at this
  exact this
theorem Lx.app {l : List UInt8} {i : Nat} {L : List (Tk × Nat)} (h : Lx l i L) : ∀ (u r : List UInt8) (M : List (Tk × Nat)), l = u ++ [10] → Lx r (i + u.length + 1) M → Lx (u ++ 10 :: r) i (L ++ M) := by
 induction h with
 | @done l i h1 =>
  rintro u r M rfl hM
  have h2 := (skipM_line2 u r false).2 (by rw [h1]; simp)
  have hd : (u ++ 10 :: r).drop (skipM false (u ++ 10 :: r)) = r.drop (skipM false r) := by
   rw [h2, ← List.drop_drop, show u.length + 1 = (u ++ [10]).length by simp, show u ++ 10 :: r = (u ++ [10]) ++ r by simp, List.drop_left]
  rw [List.nil_append]
  cases hM with
  | done h3 => exact .done (by rw [h2, h3]; simp; omega)
  | tok h3 h4 h5 =>
   have := Lx.tok (l := u ++ 10 :: r) (i := i) (by rw [hd]; exact h3) (by rw [hd]; exact h4) (by rw [hd, h2, show i + (u.length + 1 + skipM false r) = i + u.length + 1 + skipM false r by omega]; exact h5)
   rw [h2, show i + (u.length + 1 + skipM false r) = i + u.length + 1 + skipM false r by omega] at this
   exact this
 | @tok l i t n L h1 h2 h3 ih =>
  rintro u r M rfl hM
  have hle : skipM false (u ++ [10]) ≤ u.length := by
   rcases Nat.lt_or_ge u.length (skipM false (u ++ [10])) with h' | h'
   ·exact absurd (List.drop_eq_nil_of_le (by simp; omega)) h1
   ·exact h'
  have hs := (skipM_line2 u r false).1 hle
  generalize hk : skipM false (u ++ [10]) = k at *
  have d1 : (u ++ [10]).drop k = u.drop k ++ [10] := by rw [List.drop_append_of_le_length hle]
  have d2 : (u ++ 10 :: r).drop k = u.drop k ++ 10 :: r := by rw [List.drop_append_of_le_length hle]
  rw [d1] at h1 h2 h3 ih
  cases hu : u.drop k with
  | nil =>
   rw [hu] at h2
   have : (tokP ([] ++ [10])).1 = 10 := rfl
   rw [h2] at this; simp at this
  | cons c w =>
   rw [hu] at h1 h2 h3 ih d2
   have hw : u.length - k = w.length + 1 := by have := congrArg List.length hu; simpa using this
   obtain ⟨q1, q2⟩ := tokP_line c w r
   have hc10 : c ≠ 10 := by
    rintro rfl
    have : (tokP (10 :: (w ++ [10]))).1 = 10 := by
     have a1 : digitB 10 = false := rfl
     have a2 : (smallB 10 || largeB 10) = false := rfl
     have a3 : signB 10 = false := rfl
     rw [tokP, if_neg (by simp [a1]), if_neg (by decide), if_neg (by simp [a2]), if_neg (by simp [a3])]
    have h2' : tokP (10 :: (w ++ [10])) = (0, t, n) := h2
    rw [h2'] at this; simp at this
   have h2' : tokP (c :: (w ++ [10])) = (0, t, n) := h2
   rw [h2'] at q1 q2
   have hn : n ≤ w.length + 1 := q2 rfl hc10
   have e1 : (c :: w ++ [10]).drop n = (c :: w).drop n ++ [10] := by rw [List.drop_append_of_le_length (by simpa using hn)]
   have e2 : (c :: w ++ 10 :: r).drop n = (c :: w).drop n ++ 10 :: r := by rw [List.drop_append_of_le_length (by simpa using hn)]
   have := ih ((c :: w).drop n) r M e1 (by
    rw [List.length_drop, List.length_cons, show i + k + n + (w.length + 1 - n) + 1 = i + u.length + 1 by omega]
    exact hM)
   have fin := Lx.tok (l := u ++ 10 :: r) (i := i) (t := t) (n := n) (L := L ++ M) (by rw [hs, d2]; simp) (by rw [hs, d2]; exact q1) (by rw [hs, d2, e2]; exact this)
   rw [hs] at fin
   exact fin
def gaps : List (List UInt8) := [[32], [10], [9, 10, 32], [10, 35, 32, 108, 101, 116, 10], [32, 35, 10]]
theorem gap_skip (m : Nat) (g : List UInt8) (h : gaps[m]? = some g) (t : List UInt8) : skipM false (g ++ t) = g.length + skipM false t := by
 match m, h with
 | 0, h => simp [gaps] at h; subst h; simp [skipM]
 | 1, h => simp [gaps] at h; subst h; simp [skipM]
 | 2, h => simp [gaps] at h; subst h; simp [skipM]; omega
 | 3, h => simp [gaps] at h; subst h; simp [skipM]; omega
 | 4, h => simp [gaps] at h; subst h; simp [skipM]; omega
 | m + 5, h => simp [gaps] at h
/-- The law, plainly. -/
theorem Toks_joined (s t g : List UInt8) (m : Nat) (hg : gaps[m]? = some g) (hs : s.length ≤ 300) (ht : t.length ≤ 300) (h1 : (Toks (s ++ [10])).2.2 = 0) (h2 : (Toks t).2.2 = 0) :
  ∃ L M, Toks (s ++ [10]) = (L ++ [((⟨0, [], 0⟩ : Tk), s.length + 1)], 0, 0) ∧ Toks t = (M ++ [((⟨0, [], 0⟩ : Tk), t.length)], 0, 0) ∧
   Toks (s ++ [10] ++ g ++ t) = (L ++ (M ++ [((⟨0, [], 0⟩ : Tk), t.length)]).map (fun p => (p.1, p.2 + (s.length + 1 + g.length))), 0, 0) := by
 obtain ⟨L, hL, xL⟩ := Toks_lx h1
 obtain ⟨M, hM, xM⟩ := Toks_lx h2
 have hgl : g.length ≤ 7 := by
  match m, hg with
  | 0, h => simp [gaps] at h; subst h; simp
  | 1, h => simp [gaps] at h; subst h; simp
  | 2, h => simp [gaps] at h; subst h; simp
  | 3, h => simp [gaps] at h; subst h; simp
  | 4, h => simp [gaps] at h; subst h; simp
  | m + 5, h => simp [gaps] at h
 refine ⟨L, M, by rw [hL]; simp, hM, ?_⟩
 have x1 := xM.shift (s.length + 1 + g.length)
 rw [Nat.zero_add] at x1
 have x2 : Lx (g ++ t) (0 + s.length + 1) (M.map fun p => (p.1, p.2 + (s.length + 1 + g.length))) := Lx.ahead (gap_skip m g hg) (by rw [show 0 + s.length + 1 + g.length = s.length + 1 + g.length by omega]; exact x1)
 have x3 := xL.app s (g ++ t) _ rfl x2
 have := lx_Toks (s := s ++ 10 :: (g ++ t)) (by simp; omega) x3
 rw [show s ++ [10] ++ g ++ t = s ++ 10 :: (g ++ t) by simp, this]
 simp
 omega
theorem skipM_idem : ∀ (l : List UInt8) (b : Bool), skipM false (l.drop (skipM b l)) = 0
 | [], b => by cases b <;> simp [skipM]
 | c :: l, true => by
  simp only [skipM]
  split
  ·rw [Nat.add_comm, List.drop_succ_cons]; exact skipM_idem l false
  ·rw [Nat.add_comm, List.drop_succ_cons]; exact skipM_idem l true
 | c :: l, false => by
  by_cases h1 : c = 32 ∨ c = 9 ∨ c = 10
  ·have : skipM false (c :: l) = 1 + skipM false l := by simp only [skipM, if_pos h1]
   rw [this, Nat.add_comm, List.drop_succ_cons]; exact skipM_idem l false
  ·by_cases h2 : c = 35
   ·have : skipM false (c :: l) = 1 + skipM true l := by simp only [skipM, if_neg h1, if_pos h2]
    rw [this, Nat.add_comm, List.drop_succ_cons]; exact skipM_idem l true
   ·have : skipM false (c :: l) = 0 := by simp only [skipM, if_neg h1, if_neg h2]
    rw [this, List.drop_zero, this]
theorem skip_all : ∀ (l : List UInt8) (b : Bool), skipM b (l.take (skipM b l) ++ [10]) = skipM b l + 1
 | [], b => by cases b <;> simp [skipM]
 | c :: l, true => by
  by_cases h : c = 10
  ·have e : skipM true (c :: l) = 1 + skipM false l := by simp only [skipM, if_pos h]
   rw [e, Nat.add_comm, List.take_succ_cons, List.cons_append]
   simp only [skipM, if_pos h, skip_all l false]; omega
  ·have e : skipM true (c :: l) = 1 + skipM true l := by simp only [skipM, if_neg h]
   rw [e, Nat.add_comm, List.take_succ_cons, List.cons_append]
   simp only [skipM, if_neg h, skip_all l true]; omega
 | c :: l, false => by
  by_cases h1 : c = 32 ∨ c = 9 ∨ c = 10
  ·have e : skipM false (c :: l) = 1 + skipM false l := by simp only [skipM, if_pos h1]
   rw [e, Nat.add_comm, List.take_succ_cons, List.cons_append]
   simp only [skipM, if_pos h1, skip_all l false]; omega
  ·by_cases h2 : c = 35
   ·have e : skipM false (c :: l) = 1 + skipM true l := by simp only [skipM, if_neg h1, if_pos h2]
    rw [e, Nat.add_comm, List.take_succ_cons, List.cons_append]
    simp only [skipM, if_neg h1, if_pos h2, skip_all l true]; omega
   ·have e : skipM false (c :: l) = 0 := by simp only [skipM, if_neg h1, if_neg h2]
    rw [e]; simp [skipM]
/-- What may stand behind a token that is cut out. -/
def Stop (X r : List UInt8) : Prop := ∀ x, X.head? = some x → (x = 32 ∨ x = 9 ∨ x = 10 ∨ x = 35) ∨ r.head? = some x
theorem takeWhile_take (f : UInt8 → Bool) : ∀ l : List UInt8, l.take (l.takeWhile f).length = l.takeWhile f
 | [] => rfl
 | c :: l => by
  rw [List.takeWhile_cons]
  split
  ·rw [List.length_cons, List.take_succ_cons, takeWhile_take f l]
  ·simp
theorem takeWhile_all (f : UInt8 → Bool) : ∀ (l : List UInt8) (x : UInt8), x ∈ l.takeWhile f → f x = true
 | [], x, h => by simp at h
 | c :: l, x, h => by
  rw [List.takeWhile_cons] at h
  split at h
  ·rename_i h1
   rcases List.mem_cons.1 h with rfl | h
   ·exact h1
   ·exact takeWhile_all f l x h
  ·cases h
theorem takeWhile_stop (f : UInt8 → Bool) : ∀ (l : List UInt8) (x : UInt8), (l.drop (l.takeWhile f).length).head? = some x → f x = false
 | [], x, h => by simp at h
 | c :: l, x, h => by
  rw [List.takeWhile_cons] at h
  split at h
  ·rw [List.length_cons, List.drop_succ_cons] at h; exact takeWhile_stop f l x h
  ·rename_i h1; simp at h; subst h; simpa using h1
theorem takeWhile_cut (f : UInt8 → Bool) (hs : f 32 = false ∧ f 9 = false ∧ f 10 = false ∧ f 35 = false) (l X : List UInt8) (hX : Stop X (l.drop (l.takeWhile f).length)) : (l.takeWhile f ++ X).takeWhile f = l.takeWhile f := by
 have key : ∀ p : List UInt8, (∀ x ∈ p, f x = true) → (∀ x, X.head? = some x → f x = false) → (p ++ X).takeWhile f = p := by
  intro p
  induction p with
  | nil =>
   intro _ h
   cases X with
   | nil => rfl
   | cons x X => rw [List.nil_append, List.takeWhile_cons, h x rfl]; rfl
  | cons a p ih =>
   intro h1 h2
   rw [List.cons_append, List.takeWhile_cons, if_pos (h1 a List.mem_cons_self), ih (fun x hx => h1 x (List.mem_cons_of_mem _ hx)) h2]
 refine key _ (fun x hx => takeWhile_all f l x hx) fun x hx => ?_
 rcases hX x hx with (rfl | rfl | rfl | rfl) | h
 ·exact hs.1
 ·exact hs.2.1
 ·exact hs.2.2.1
 ·exact hs.2.2.2
 ·exact takeWhile_stop f l x h
theorem hexStep_cut : ∀ (k n : Nat) (w r : List UInt8), k ≤ w.length → hexStep k n (w ++ r) = hexStep k n w
 | 0, n, w, r, _ => by simp [hexStep]
 | k + 1, n, [], r, h => by simp at h
 | k + 1, n, a :: w, r, h => by
  rw [List.cons_append, hexStep, hexStep]
  cases hexV a with
  | none => rfl
  | some y => exact hexStep_cut k _ w r (by simpa using h)
theorem escP_cut (l : List UInt8) (h : (escP l).1 = 0) (m : Nat) (hm : (escP l).2.2 ≤ m) (X : List UInt8) : escP (l.take m ++ X) = escP l := by
 cases l with
 | nil => simp [escP] at h
 | cons c r =>
  obtain ⟨m, rfl⟩ : ∃ q, m = q + 1 := ⟨m - 1, by have := (escP_ok _ h).1; omega⟩
  rw [List.take_succ_cons, List.cons_append]
  simp only [escP] at h hm ⊢
  split
  ·rfl
  ·rename_i h1
   rw [if_neg h1] at h hm
   split
   ·rfl
   ·rename_i h2
    rw [if_neg h2] at h hm
    split
    ·rfl
    ·rename_i h3
     rw [if_neg h3] at h hm
     split
     ·rfl
     ·rename_i h4
      rw [if_neg h4] at h hm
      obtain ⟨g1, g2⟩ := hexStep_ok 2 0 r h
      rw [g2] at hm
      have e : r.take 2 = (r.take m).take 2 := by rw [List.take_take, Nat.min_eq_left (by omega)]
      have q1 : hexStep 2 0 (r.take m ++ X) = hexStep 2 0 (r.take 2) := by
       rw [show r.take m ++ X = r.take 2 ++ ((r.take m).drop 2 ++ X) by rw [e, ← List.append_assoc, List.take_append_drop]]
       exact hexStep_cut _ _ _ _ (by simp; omega)
      have q2 : hexStep 2 0 r = hexStep 2 0 (r.take 2) := by
       conv => lhs; rw [← List.take_append_drop 2 r]
       exact hexStep_cut _ _ _ _ (by simp; omega)
      rw [q1, q2]
theorem unqK_cut : ∀ (l : List UInt8) (k : Nat) (acc : List UInt8) (a : Nat) (X : List UInt8), (unqK l k acc a).2.2 = 0 → a + 1 ≤ (unqK l k acc a).2.1 ∧ unqK (l.take ((unqK l k acc a).2.1 - a + k) ++ X) k acc a = unqK l k acc a
 | [], k, acc, a, X, h => by simp [unqK] at h
 | c :: r, k + 1, acc, a, X, h => by
  have e : unqK (c :: r) (k + 1) acc a = unqK r k acc a := by rw [unqK]
  rw [e] at h ⊢
  obtain ⟨h1, h2⟩ := unqK_cut r k acc a X h
  refine ⟨h1, ?_⟩
  rw [show (unqK r k acc a).2.1 - a + (k + 1) = ((unqK r k acc a).2.1 - a + k) + 1 by omega, List.take_succ_cons, List.cons_append, unqK]
  exact h2
 | c :: r, 0, acc, a, X, h => by
  by_cases c1 : c = 10
  ·simp [unqK, c1] at h
  by_cases c2 : c = 34
  ·by_cases c3 : 60 < acc.length
   ·simp [unqK, c2, c3] at h
   ·have e : ∀ r, unqK (c :: r) 0 acc a = (acc, a + 1, 0) := fun r => by simp [unqK, c2, c3]
    rw [e]
    refine ⟨Nat.le_refl _, ?_⟩
    rw [show a + 1 - a + 0 = 0 + 1 by omega, List.take_succ_cons, List.cons_append, e]
  by_cases c4 : c = 92
  ·by_cases c5 : (escP r).1 ≠ 0
   ·simp [unqK, c4, c5] at h
   ·have c5' : (escP r).1 = 0 := by simpa using c5
    have e : unqK (c :: r) 0 acc a = unqK r (escP r).2.2 (acc ++ [(escP r).2.1]) (a + 1 + (escP r).2.2) := by simp [unqK, c4, c5']
    rw [e] at h ⊢
    obtain ⟨h1, h2⟩ := unqK_cut r _ _ _ X h
    generalize hu : (unqK r (escP r).2.2 (acc ++ [(escP r).2.1]) (a + 1 + (escP r).2.2)).2.1 = n at h1 h2 ⊢
    refine ⟨by omega, ?_⟩
    have hp := escP_ok r c5'
    rw [show n - a + 0 = (n - (a + 1 + (escP r).2.2) + (escP r).2.2) + 1 by omega, List.take_succ_cons, List.cons_append]
    have q := escP_cut r c5' (n - (a + 1 + (escP r).2.2) + (escP r).2.2) (by omega) X
    have e2 : ∀ r', escP r' = escP r → unqK (c :: r') 0 acc a = unqK r' (escP r).2.2 (acc ++ [(escP r).2.1]) (a + 1 + (escP r).2.2) := fun r' he => by simp [unqK, c4, he, c5']
    rw [e2 _ q]
    exact h2
  by_cases c6 : plainB c = false
  ·simp [unqK, c1, c2, c4, c6] at h
  have e : ∀ r, unqK (c :: r) 0 acc a = unqK r 0 (acc ++ [c]) (a + 1) := fun r => by simp [unqK, c1, c2, c4, c6]
  rw [e] at h ⊢
  obtain ⟨h1, h2⟩ := unqK_cut r _ _ _ X h
  refine ⟨by omega, ?_⟩
  generalize hu : (unqK r 0 (acc ++ [c]) (a + 1)).2.1 = n at h1 h2 ⊢
  rw [show n - a + 0 = (n - (a + 1) + 0) + 1 by omega, List.take_succ_cons, List.cons_append, e]
  exact h2
theorem tokP_cut {l : List UInt8} {t : Tk} {n : Nat} (hl : l ≠ []) (h : tokP l = (0, t, n)) (X : List UInt8) (hX : Stop X (l.drop n)) : 1 ≤ n ∧ tokP (l.take n ++ X) = (0, t, n) := by
 cases l with
 | nil => exact absurd rfl hl
 | cons c r =>
 have digS : digitB 32 = false ∧ digitB 9 = false ∧ digitB 10 = false ∧ digitB 35 = false := ⟨rfl, rfl, rfl, rfl⟩
 have innS : innerB 32 = false ∧ innerB 9 = false ∧ innerB 10 = false ∧ innerB 35 = false := ⟨rfl, rfl, rfl, rfl⟩
 have hn1 : 1 ≤ n := by
  have := (tokP_len (c :: r) (by rw [h])).2.2 hl
  rw [h] at this; exact this
 refine ⟨hn1, ?_⟩
 obtain ⟨m, rfl⟩ : ∃ m, n = m + 1 := ⟨n - 1, by omega⟩
 have hc : (c :: r).take (m + 1) ++ X = c :: (r.take m ++ X) := by rw [List.take_succ_cons, List.cons_append]
 simp only [tokP] at h
 by_cases h1 : digitB c = true
 ·rw [if_pos h1] at h
  split at h
  ·rename_i hv
   injection h with _ h; injection h with ht hn
   have tk := takeWhile_take digitB (c :: r)
   have cut := takeWhile_cut digitB digS (c :: r) X (by rw [hn]; exact hX)
   rw [hn] at tk
   conv at cut => lhs; rw [← tk]
   rw [hc] at cut ⊢
   simp only [tokP]
   rw [if_pos h1, cut, if_pos hv, ht, hn]
  ·cases h
 rw [if_neg h1] at h
 by_cases h2 : c = 34
 ·rw [if_pos h2] at h
  split at h
  ·rename_i hu
   injection h with _ h; injection h with ht hn
   have e : ∀ r, unq (c :: r) = unqK r 0 [] 1 := fun r => by rw [unq, if_neg (by simp [h2])]
   rw [e] at hu ht hn
   obtain ⟨g1, g2⟩ := unqK_cut r 0 [] 1 X hu
   rw [hn] at g1 g2
   rw [show m + 1 - 1 + 0 = m by omega] at g2
   rw [hc]
   simp only [tokP]
   rw [if_neg h1, if_pos h2, e, g2, if_pos hu, ht, hn]
  ·rename_i hu; exact absurd (congrArg Prod.fst h) hu
 rw [if_neg h2] at h
 by_cases h3 : (smallB c || largeB c) = true
 ·rw [if_pos h3] at h
  split at h
  ·cases h
  ·rename_i hv
   injection h with _ h; injection h with ht hn
   have tk := takeWhile_take innerB (c :: r)
   have cut := takeWhile_cut innerB innS (c :: r) X (by rw [hn]; exact hX)
   rw [hn] at tk
   conv at cut => lhs; rw [← tk]
   rw [hc] at cut ⊢
   simp only [tokP]
   rw [if_neg h1, if_neg h2, if_pos h3, cut, if_neg hv, ht, hn]
 rw [if_neg h3] at h
 by_cases h4 : signB c = true
 ·rw [if_pos h4] at h
  rw [hc]
  simp only [tokP]
  rw [if_neg h1, if_neg h2, if_neg h3, if_pos h4]
  split at h
  ·rename_i h5
   injection h with _ h; injection h with ht hn
   have hm : m = 1 := by omega
   subst hm
   cases r with
   | nil => simp at h5
   | cons b r =>
    have : (c :: (List.take 1 (b :: r) ++ X)).take 2 = [c, b] := rfl
    rw [this]
    have h5' : [c, b] = [45, 62] := h5
    rw [if_pos h5', ← ht]; rfl
  ·rename_i h5
   injection h with _ h; injection h with ht hn
   have hm : m = 0 := by omega
   subst hm
   have h6 : ¬ (c :: (List.take 0 r ++ X)).take 2 = [45, 62] := by
    intro h6
    rw [List.take_zero, List.nil_append] at h6
    cases X with
    | nil => simp at h6
    | cons x X =>
     have h7 : [c, x] = [45, 62] := h6
     injection h7 with h8 h9
     injection h9 with h9 _
     rcases hX x rfl with (g | g | g | g) | g
     ·rw [g] at h9; exact absurd h9 (by decide)
     ·rw [g] at h9; exact absurd h9 (by decide)
     ·rw [g] at h9; exact absurd h9 (by decide)
     ·rw [g] at h9; exact absurd h9 (by decide)
     ·cases r with
      | nil => simp at g
      | cons b r =>
       have : b = x := by simpa using g
       apply h5
       show [c, b] = [45, 62]
       rw [this, h8, h9]
   rw [if_neg h6, ← ht]; rfl
 ·rw [if_neg h4] at h; simp at h
theorem skipM_app : ∀ (l X : List UInt8) (b : Bool), skipM b l < l.length → skipM b (l ++ X) = skipM b l
 | [], X, b, h => by simp at h
 | c :: l, X, true, h => by
  rw [List.cons_append]
  by_cases h1 : c = 10
  ·simp only [skipM, if_pos h1, List.length_cons] at h ⊢; rw [skipM_app l X false (by omega)]
  ·simp only [skipM, if_neg h1, List.length_cons] at h ⊢; rw [skipM_app l X true (by omega)]
 | c :: l, X, false, h => by
  rw [List.cons_append]
  by_cases h1 : c = 32 ∨ c = 9 ∨ c = 10
  ·simp only [skipM, if_pos h1, List.length_cons] at h ⊢; rw [skipM_app l X false (by omega)]
  ·by_cases h2 : c = 35
   ·simp only [skipM, if_neg h1, if_pos h2, List.length_cons] at h ⊢; rw [skipM_app l X true (by omega)]
   ·simp only [skipM, if_neg h1, if_neg h2]
theorem stop_nl (r : List UInt8) : Stop (r ++ [10]) r := by
 intro x hx
 cases r with
 | nil => simp at hx; exact .inl (.inr (.inr (.inl hx.symm)))
 | cons c r => exact .inr hx
/-- A line's end behind all changes nothing. -/
theorem Lx.nl {l : List UInt8} {i : Nat} {L : List (Tk × Nat)} (h : Lx l i L) : Lx (l ++ [10]) i L := by
 induction h with
 | @done l i h1 =>
  have := skip_all l false
  rw [h1, List.take_length] at this
  exact .done (by rw [this]; simp)
 | @tok l i t n L h1 h2 h3 ih =>
  have hlt : skipM false l < l.length := by
   rcases Nat.lt_or_ge (skipM false l) l.length with h' | h'
   ·exact h'
   ·exact absurd (List.drop_eq_nil_of_le h') h1
  have hs := skipM_app l [10] false hlt
  have hd : (l ++ [10]).drop (skipM false l) = l.drop (skipM false l) ++ [10] := by rw [List.drop_append_of_le_length (by omega)]
  obtain ⟨hn1, hc⟩ := tokP_cut h1 h2 ((l.drop (skipM false l)).drop n ++ [10]) (stop_nl _)
  rw [← List.append_assoc, List.take_append_drop] at hc
  have hnl := (tokP_len (l.drop (skipM false l)) (by rw [h2])).1
  rw [h2] at hnl
  have := Lx.tok (l := l ++ [10]) (i := i) (t := t) (n := n) (L := L) (by rw [hs, hd]; simp) (by rw [hs, hd]; exact hc) (by rw [hs, hd, List.drop_append_of_le_length hnl]; exact ih)
  rw [hs] at this
  exact this
def nxt (e : Nat) : List (Tk × Nat) → Nat
 | [] => e
 | (_, b) :: _ => b
def linesP (s : List UInt8) : List (Tk × Nat) → List UInt8
 | [] => [10]
 | (_, a) :: L => (s.drop a).take (nxt s.length L - a) ++ 10 :: linesP s L
theorem Lx.nxt {s l : List UInt8} {i : Nat} {L : List (Tk × Nat)} (h : Lx l i L) (hl : l = s.drop i) (hi : i ≤ s.length) : Go.Proofs.YtdohdncgjendkaaDoor.nxt s.length L = i + skipM false l := by
 cases h with
 | done h1 => rw [Go.Proofs.YtdohdncgjendkaaDoor.nxt, h1, hl, List.length_drop]; omega
 | tok h1 h2 h3 => rfl
theorem lines_lx (s : List UInt8) {l : List UInt8} {i : Nat} {L : List (Tk × Nat)} (h : Lx l i L) : l = s.drop i → i ≤ s.length → ∃ L', Lx (linesP s L) 0 L' ∧ L'.map (·.1) = L.map (·.1) ∧ (linesP s L).length + nxt s.length L = s.length + L.length + 1 := by
 induction h with
 | @done l i h1 =>
  intro hl hi
  exact ⟨[], .done rfl, rfl, by simp [linesP, nxt]; omega⟩
 | @tok l i t n L h1 h2 h3 ih =>
  intro hl hi
  have hsk := skipM_le false l
  have hll : l.length = s.length - i := by rw [hl, List.length_drop]
  have hd : l.drop (skipM false l) = s.drop (i + skipM false l) := by rw [hl, List.drop_drop]
  have hnl := (tokP_len (l.drop (skipM false l)) (by rw [h2])).1
  rw [h2, List.length_drop] at hnl
  simp only at hnl
  have h3d : (l.drop (skipM false l)).drop n = s.drop (i + skipM false l + n) := by rw [hd, List.drop_drop]
  obtain ⟨L', q1, q2, q3⟩ := ih h3d (by omega)
  have hnx := h3.nxt h3d (by omega)
  generalize hk : skipM false ((l.drop (skipM false l)).drop n) = k at hnx
  generalize ha : i + skipM false l = a at *
  have hpiece : (s.drop a).take (nxt s.length L - a) = (s.drop a).take n ++ ((s.drop a).drop n).take k := by
   rw [hnx, show a + n + k - a = n + k by omega, List.take_add]
  have hkl : k ≤ ((s.drop a).drop n).length := by
   rw [← hk, ← hd]; exact skipM_le false _
  have hal : n + k ≤ s.length - a := by rw [List.length_drop, List.length_drop] at hkl; omega
  rw [hd] at h1 h2 hk
  have hstop : Stop (((s.drop a).drop n).take k ++ [10]) ((s.drop a).drop n) := by
   intro x hx
   cases hr : (s.drop a).drop n with
   | nil => rw [hr] at hx; simp at hx; exact .inl (.inr (.inr (.inl hx.symm)))
   | cons c r =>
    rw [hr] at hx
    cases k with
    | zero => simp at hx; exact .inl (.inr (.inr (.inl hx.symm)))
    | succ k => exact .inr hx
  obtain ⟨hn1, hc⟩ := tokP_cut h1 h2 _ hstop
  rw [← List.append_assoc, ← hpiece] at hc
  have h0 : skipM false (s.drop a) = 0 := by rw [← ha, ← List.drop_drop, ← hl]; exact skipM_idem l false
  have hp0 : skipM false ((s.drop a).take (nxt s.length L - a) ++ [10]) = 0 := by
   rw [hpiece]
   cases hr : s.drop a with
   | nil => exact absurd hr h1
   | cons c r =>
    rw [hr] at h0
    obtain ⟨m, rfl⟩ : ∃ m, n = m + 1 := ⟨n - 1, by omega⟩
    rw [List.take_succ_cons, List.cons_append, List.cons_append]
    simp only [skipM] at h0 ⊢
    split at h0
    ·omega
    ·split at h0
     ·omega
     ·rename_i g1 g2; rw [if_neg g1, if_neg g2]
  have hone : Lx ((s.drop a).take (nxt s.length L - a) ++ [10]) 0 [(t, 0)] := by
   have := Lx.tok (l := (s.drop a).take (nxt s.length L - a) ++ [10]) (i := 0) (t := t) (n := n) (L := []) (by rw [hp0]; simp) (by rw [hp0]; exact hc) (by
    rw [hp0, List.drop_zero, hpiece, List.append_assoc, List.drop_append_of_le_length (by rw [List.length_take, List.length_drop]; omega), List.drop_eq_nil_of_le (by rw [List.length_take]; omega), List.nil_append]
    refine .done ?_
    have := skip_all ((s.drop a).drop n) false
    rw [hk] at this
    rw [this, List.length_append, List.length_take, Nat.min_eq_left hkl]; rfl)
   rw [hp0] at this
   exact this
  have happ := hone.app _ (linesP s L) _ rfl (q1.shift (0 + ((s.drop a).take (nxt s.length L - a)).length + 1) |> fun x => by rw [Nat.zero_add] at x; exact x)
  refine ⟨_, happ, ?_, ?_⟩
  ·rw [List.map_append, List.map_map]
   simp only [List.map_cons, List.map_nil, List.cons_append, List.nil_append, List.cons.injEq, true_and]
   rw [← q2]; rfl
  ·simp only [linesP, List.length_append, List.length_cons, List.length_take, List.length_drop]
   rw [show nxt s.length ((t, a) :: L) = a from rfl]
   rw [hnx] at q3 ⊢
   omega
/-- The law, plainly. -/
theorem lines_same (s : List UInt8) (hs : s.length ≤ 400) (he : (Toks s).2.2 = 0) : ∃ L, (Toks s).1 = L ++ [((⟨0, [], 0⟩ : Tk), s.length)] ∧ erN (progR s).1 = erN (progR (linesP s L)).1 ∧ (progR s).2.2 = (progR (linesP s L)).2.2 ∧ (linesP s L).length ≤ 900 := by
 obtain ⟨L, hL, xL⟩ := Toks_lx he
 obtain ⟨L', x', hm, hlen⟩ := lines_lx s xL rfl (Nat.zero_le _)
 have hTl := Toks_len s
 rw [hL] at hTl
 simp only [List.length_append, List.length_cons, List.length_nil] at hTl
 have hT := lx_Toks (s := linesP s L) (by omega) x'
 refine ⟨L, by rw [hL], ?_⟩
 have hT1 : (Toks (linesP s L)).1 = L' ++ [((⟨0, [], 0⟩ : Tk), (linesP s L).length)] := by rw [hT]
 have hT2 : (Toks (linesP s L)).2.2 = 0 := by rw [hT]
 have hL1 : (Toks s).1 = L ++ [((⟨0, [], 0⟩ : Tk), s.length)] := by rw [hL]
 have her : erT (Toks s).1 = erT (Toks (linesP s L)).1 := by
  have e : ∀ l : List (Tk × Nat), l.map (fun p => (p.1, 0)) = (l.map (·.1)).map fun t => ((t, 0) : Tk × Nat) := fun l => by rw [List.map_map]; rfl
  rw [hL1, hT1]
  simp only [erT, List.map_append]
  rw [e L, e L', hm]; rfl
 have hfu : (Toks s).1.length = (Toks (linesP s L)).1.length := by
  have := congrArg List.length her
  simpa [erT] using this
 obtain ⟨n1, q1, r1⟩ := prog_some he
 obtain ⟨n2, q2, r2⟩ := prog_some hT2
 have a1 := run_er (T := (Toks s).1) (30 * (Toks s).1.length + 9) .program ps0
 have a2 := run_er (T := (Toks (linesP s L)).1) (30 * (Toks (linesP s L)).1.length + 9) .program ps0
 rw [r1] at a1
 rw [r2, ← her, ← hfu] at a2
 rw [a1] at a2
 simp only [erP_some, Option.some.injEq, Prod.mk.injEq] at a2
 obtain ⟨b1, b2⟩ := a2
 have b3 : (erS q1).e = (erS q2).e := congrArg PS.e b2
 replace b3 : q1.e = q2.e := b3
 unfold progR
 rw [if_neg (by simpa using he), if_neg (by simpa using hT2), r1, r2]
 simp only
 rw [b3]
 by_cases hz : q2.e ≠ 0
 ·rw [if_pos hz, if_pos hz]; exact ⟨rfl, rfl, by omega⟩
 ·rw [if_neg hz, if_neg hz]; exact ⟨b1, rfl, by omega⟩
theorem nxt_get (e : Nat) (L : List (Tk × Nat)) (j : Nat) (hj : j ≤ L.length) : ∃ t, (L ++ [((⟨0, [], 0⟩ : Tk), e)])[j]? = some (t, nxt e (L.drop j)) := by
 rcases Nat.lt_or_ge j L.length with h | h
 ·rw [List.getElem?_append_left h, List.getElem?_eq_getElem h, List.drop_eq_getElem_cons h]
  exact ⟨_, rfl⟩
 ·have : j = L.length := by omega
  subst this
  rw [List.getElem?_append_right (Nat.le_refl _), Nat.sub_self, List.drop_length]
  exact ⟨_, rfl⟩
set_option maxHeartbeats 8000000 in
theorem blanksLaw (s : List UInt8) : Does X 3 [.str s] s0 fun v _ => v = .bool true := by
 refine call_aw b3 rfl rfl rfl ?_; delta b3
 simp -dsimp -implicitDefEqProofs only [go_sem, Nat.reduceAdd, Nat.reduceEqDiff, reduceIte, reduceCtorEq, Nat.reduceLeDiff, Nat.reduceLT, Nat.reduceSub, Int.reduceEq, Int.reduceLT]
 refine DoesK_of (few_call _ _) ?_
 rintro v st ⟨rfl, rfl⟩
 have hS400 : (s.take 400).length ≤ 400 := by simp; omega
 generalize s.take 400 = S at hS400
 simp -dsimp -implicitDefEqProofs only [go_sem, Nat.reduceAdd, Nat.reduceEqDiff, reduceIte, reduceCtorEq, Nat.reduceLeDiff, Nat.reduceLT, Nat.reduceSub, Int.reduceEq, Int.reduceLT]
 refine DoesK_of (rtokens_call S _ _ _) ?_
 rintro v st ⟨oT, rfl, H1, C1, rfl, f1⟩
 cases he : decide (¬ (Toks S).2.2 = 0)
 case true =>
  simp -dsimp -implicitDefEqProofs only [go_sem, Nat.reduceAdd, Nat.reduceEqDiff, reduceIte, reduceCtorEq, Nat.reduceLeDiff, Nat.reduceLT, Nat.reduceSub, Int.reduceEq, Int.reduceLT, he]
  refine DoesK_of (lives_call _ _ _) ?_
  rintro v st ⟨rfl, h', c', rfl, f⟩
  simp -dsimp -implicitDefEqProofs only [go_sem, Nat.reduceAdd, Nat.reduceEqDiff, reduceIte, reduceCtorEq, Nat.reduceLeDiff, Nat.reduceLT, Nat.reduceSub, Int.reduceEq, Int.reduceLT]
 have he' : (Toks S).2.2 = 0 := by simpa using he
 obtain ⟨L, hL, hsame, hsf, hTl⟩ := lines_same S hS400 he'
 obtain ⟨L0, hL0, xL⟩ := Toks_lx he'
 have hLL : L0 = L := by
  rw [hL0] at hL
  exact List.append_inj_left' hL rfl
 subst hLL
 have hrise := (Toks_rise S).2 he'
 obtain ⟨_, l0, hl0, hr⟩ := hrise
 have hl0' : l0 = L0 := by
  rw [hL] at hl0
  exact (List.append_inj_left' hl0 rfl).symm
 subst hl0'
 have hlen := Toks_len S
 rw [hL] at hlen
 simp only [List.length_append, List.length_cons, List.length_nil] at hlen
 have hwd := progR_wd S
 have hgl : ((Toks S).1.map tkV).length = l0.length + 1 := by rw [hL]; simp
 have hat : ∀ j, j ≤ l0.length → ∃ t, ((Toks S).1.map tkV)[j]? = some (tkV (t, nxt S.length (l0.drop j))) := by
  intro j hj
  obtain ⟨t, ht⟩ := nxt_get S.length l0 j hj
  exact ⟨t, by rw [List.getElem?_map, hL, ht]; rfl⟩
 have hle : ∀ j, j ≤ l0.length → nxt S.length (l0.drop j) ≤ S.length := by
  intro j hj
  rcases Nat.lt_or_ge j l0.length with h | h
  ·rw [List.drop_eq_getElem_cons h]
   exact Nat.le_of_lt (hr j _ (List.getElem?_eq_getElem h)).2.1
  ·rw [show l0.drop j = [] from List.drop_eq_nil_of_le h]; exact Nat.le_refl _
 have hmono : ∀ j, j < l0.length → nxt S.length (l0.drop j) ≤ nxt S.length (l0.drop (j + 1)) := by
  intro j h
  rcases Nat.lt_or_ge (j + 1) l0.length with h' | h'
  ·rw [List.drop_eq_getElem_cons h, List.drop_eq_getElem_cons h']
   exact Nat.le_of_lt ((hr (j + 1) _ (List.getElem?_eq_getElem h')).2.2.2 j _ (Nat.lt_succ_self _) (List.getElem?_eq_getElem h))
  ·rw [show l0.drop (j + 1) = [] from List.drop_eq_nil_of_le h']; exact hle j (by omega)
 clear hr
 generalize (Toks S).1.map tkV = TV at hgl hat
 simp -dsimp -implicitDefEqProofs only [go_sem, Nat.reduceAdd, Nat.reduceEqDiff, reduceIte, reduceCtorEq, Nat.reduceLeDiff, Nat.reduceLT, Nat.reduceSub, Int.reduceEq, Int.reduceLT, he]
 let I : Nat → AEnv → ASt → Prop := fun q e st => ∃ (j : Nat) (acc : List UInt8), q = l0.length + 1 - j ∧ j ≤ l0.length + 1 ∧ (j ≤ l0.length → acc ++ linesP S (l0.drop j) = linesP S l0) ∧ (j = l0.length + 1 → acc = linesP S l0) ∧ e.get 0 = .str S ∧ e.get 3 = .slice oT TV ∧ e.get 6 = .str acc ∧ e.get 7 = .int .i64 (j : Int) ∧ st = ⟨H1, C1, []⟩
 refine LoopK_rule I (l0.length + 1) ⟨0, [], rfl, Nat.zero_le _, fun _ => rfl, fun h => by omega, rfl, rfl, rfl, rfl, rfl⟩ ?_
 rintro q e st ⟨j, acc, rfl, hj, ha, hb, g0, g3, g6, g7, rfl⟩
 simp -dsimp -implicitDefEqProofs only [go_sem, Nat.reduceAdd, Nat.reduceEqDiff, reduceIte, reduceCtorEq, Nat.reduceLeDiff, Nat.reduceLT, Nat.reduceSub, Int.reduceEq, Int.reduceLT, g3, g7, hgl]
 refine CondV_split (fun hc => ?_) fun hc => ?_
 ·have hj' : j ≤ l0.length := by simp at hc; omega
  have hacc : acc.length ≤ 900 := by have := congrArg List.length (ha hj'); simp at this; omega
  have w1 : IntKind.wrap .i64 ((j : Int) + 1) = ((j + 1 : Nat) : Int) := by rw [wrap_i64 (by omega) (by omega)]; rfl
  obtain ⟨t1, ht1⟩ := hat j hj'
  have hl1 := hle j hj'
  rcases Nat.lt_or_ge j l0.length with hlt | hge
  ·have hd : decide (((j + 1 : Nat) : Int) < ((l0.length + 1 : Nat) : Int)) = true := by simp; omega
   obtain ⟨t2, ht2⟩ := hat (j + 1) hlt
   have hl2 := hle (j + 1) hlt
   have hm := hmono j hlt
   have e1 : linesP S (l0.drop j) = (S.drop (nxt S.length (l0.drop j))).take (nxt S.length (l0.drop (j + 1)) - nxt S.length (l0.drop j)) ++ 10 :: linesP S (l0.drop (j + 1)) := by
    rw [List.drop_eq_getElem_cons hlt]; rfl
   generalize nxt S.length (l0.drop j) = a at ht1 hl1 hm e1
   generalize nxt S.length (l0.drop (j + 1)) = b at ht2 hl2 hm e1
   have hcut : cutStr (some (.int .i64 (a : Int))) (some (.int .i64 (b : Int))) (.str S) = some (.str ((S.drop a).take (b - a))) := by
    rw [cut_both, if_pos ⟨hm, hl2⟩, List.drop_take]
   have hpl : ((S.drop a).take (b - a)).length ≤ 400 := by simp; omega
   generalize (S.drop a).take (b - a) = p at hcut hpl e1
   have n1 : acc.length + p.length ≤ 9223372036854775807 := by omega
   have n2 : (acc ++ p).length ≤ 9223372036854775806 := by simp; omega
   simp -dsimp -implicitDefEqProofs only [go_sem, Nat.reduceAdd, Nat.reduceEqDiff, reduceIte, reduceCtorEq, Nat.reduceLeDiff, Nat.reduceLT, Nat.reduceSub, Int.reduceEq, Int.reduceLT, g0, g3, g6, g7, hgl, w1, hd, ht1, ht2, elemA, tkV, tokC, ldCells, hcut, n1, n2]
   refine Again.of (l0.length + 1 - (j + 1)) (by omega) ⟨j + 1, acc ++ p ++ [10], rfl, by omega, fun _ => ?_, fun h => by omega, g0, g3, rfl, rfl, rfl⟩
   rw [← ha hj', e1]; simp
  ·have hje : j = l0.length := by omega
   subst hje
   have hd : decide (((l0.length + 1 : Nat) : Int) < ((l0.length + 1 : Nat) : Int)) = false := by simp
   rw [List.drop_length] at ht1
   have hcut : cutStr (some (.int .i64 (S.length : Int))) (some (.int .i64 (S.length : Int))) (.str S) = some (.str []) := by
    rw [cut_both, if_pos ⟨Nat.le_refl _, Nat.le_refl _⟩]; simp
   have n1 : acc.length ≤ 9223372036854775807 := by omega
   have n2 : acc.length ≤ 9223372036854775806 := by omega
   have hn : nxt S.length ([] : List (Tk × Nat)) = S.length := rfl
   rw [hn] at ht1
   simp -dsimp -implicitDefEqProofs only [go_sem, Nat.reduceAdd, Nat.reduceEqDiff, reduceIte, reduceCtorEq, Nat.reduceLeDiff, Nat.reduceLT, Nat.reduceSub, Int.reduceEq, Int.reduceLT, g0, g3, g6, g7, hgl, w1, hd, ht1, elemA, tkV, tokC, ldCells, hcut, n1, n2, List.length_nil, Nat.add_zero, List.append_nil]
   refine Again.of (l0.length + 1 - (l0.length + 1)) (by omega) ⟨l0.length + 1, acc ++ [10], rfl, by omega, fun h => by omega, fun _ => ?_, g0, g3, rfl, rfl, rfl⟩
   have := ha (Nat.le_refl _)
   rw [List.drop_length] at this
   exact this
 ·have hj' : j = l0.length + 1 := by simp at hc; omega
  have hacc := hb hj'
  subst hacc
  simp -dsimp -implicitDefEqProofs only [go_sem, Nat.reduceAdd, Nat.reduceEqDiff, reduceIte, reduceCtorEq, Nat.reduceLeDiff, Nat.reduceLT, Nat.reduceSub, Int.reduceEq, Int.reduceLT, preH, g0, g6]
  refine DoesK_of (prog_call S _ _ _) ?_
  rintro v st ⟨nv, rfl, N2, H2, C2, rfl, f2⟩
  obtain ⟨o1, o2, es, rfl, E2⟩ := N2.inv
  have l2 := f2.le
  have Z2 : H2 C1 = some (.cells zeroN) := (f2.at (by omega) (by simp)).trans (upd_same _ _ _)
  simp -dsimp -implicitDefEqProofs only [go_sem, Nat.reduceAdd, Nat.reduceEqDiff, reduceIte, reduceCtorEq, Nat.reduceLeDiff, Nat.reduceLT, Nat.reduceSub, Int.reduceEq, Int.reduceLT, preH, OpK_alloc, Z2, zeroN, ldCells, g6]
  refine DoesK_of (prog_call (linesP S l0) _ _ _) ?_
  rintro v st ⟨nw, rfl, N3, H3, C3, rfl, f3⟩
  obtain ⟨o3, o4, fs, rfl, E3⟩ := N3.inv
  have l3 := f3.le
  have Z3 := (f3.at (show C1 < C2 + 1 by omega) (by simp)).trans ((upd_ne _ _ (by omega)).trans (upd_same _ _ _))
  have Y3 : H3 C2 = some (.cells zeroN) := (f3.at (by omega) (by simp)).trans (upd_same _ _ _)
  have u1 : ∀ h x, upd h C2 x C1 = h C1 := fun h x => upd_ne h x (by omega)
  simp -dsimp -implicitDefEqProofs only [go_sem, Nat.reduceAdd, Nat.reduceEqDiff, reduceIte, reduceCtorEq, Nat.reduceLeDiff, Nat.reduceLT, Nat.reduceSub, Int.reduceEq, Int.reduceLT, preH, OpK_alloc, Z3, Y3, u1, upd_same, zeroN, ldCells]
  refine DoesK_of (refSame_call _ _ _ _ _ _ _ _ (Nat.le_refl _) hwd N2 N3) ?_
  rintro r st ⟨b, rfl, hbb, H4, C4, rfl, f4⟩
  have hbt : b = true := hbb.2 hsame
  subst hbt
  have hee : decide ((progR S).2.2 = (progR (linesP S l0)).2.2) = true := by simpa using hsf
  simp -dsimp -implicitDefEqProofs only [go_sem, Nat.reduceAdd, Nat.reduceEqDiff, reduceIte, reduceCtorEq, Nat.reduceLeDiff, Nat.reduceLT, Nat.reduceSub, Int.reduceEq, Int.reduceLT, hee]
  refine DoesK_of (lives_call _ _ _) ?_
  rintro v st ⟨rfl, h', c', rfl, f⟩
  simp -dsimp -implicitDefEqProofs only [go_sem, Nat.reduceAdd, Nat.reduceEqDiff, reduceIte, reduceCtorEq, Nat.reduceLeDiff, Nat.reduceLT, Nat.reduceSub, Int.reduceEq, Int.reduceLT]
end Go.Proofs.YtdohdncgjendkaaDoor
