/- Two sources, one behind the other. Tokens that are cut out of a source. Brackets in one another: how they are read. Brackets in one another: the sources. ParseDeep: the walk. -/
import Derived.Test.YtdohdncgjendkaaDoorFB
import Derived.Test.YtdohdncgjendkaaDoorGD
import Derived.Test.YtdohdncgjendkaaDoorGC
set_option linter.unusedVariables false
set_option linter.unusedSimpArgs false
namespace Go.Proofs.YtdohdncgjendkaaDoor
open Abs Go.RowKit
/-- A source's tokens but for the end, from a place on. -/
inductive Lx : List UInt8 → Nat → List (Tk × Nat) → Prop
 | done {l : List UInt8} {i : Nat} : skipM false l = l.length → Lx l i []
 | tok {l : List UInt8} {i : Nat} {t : Tk} {n : Nat} {L : List (Tk × Nat)} : l.drop (skipM false l) ≠ [] → tokP (l.drop (skipM false l)) = (0, t, n) → Lx ((l.drop (skipM false l)).drop n) (i + skipM false l + n) L → Lx l i ((t, i + skipM false l) :: L)
theorem Lx.shift {l : List UInt8} {i : Nat} {L : List (Tk × Nat)} (d : Nat) (h : Lx l i L) : Lx l (i + d) (L.map fun p => (p.1, p.2 + d)) := by
 induction h with
 | done h1 => exact .done h1
 | @tok l i t n L h1 h2 h3 ih =>
  have := Lx.tok (i := i + d) h1 h2 (by rw [show i + d + skipM false l + n = i + skipM false l + n + d by omega]; exact ih)
  rw [List.map_cons]
  rw [show i + d + skipM false l = i + skipM false l + d by omega] at this
  exact this
theorem tok_k {l : List UInt8} (h : l ≠ []) (he : (tokP l).1 = 0) : (tokP l).2.1.k ≠ 0 := fun e => h ((tokP_len l he).2.1 e)
theorem toksP_lx (s : List UInt8) : ∀ (f i : Nat) (acc : List (Tk × Nat)), s.length + 1 - i ≤ f → i ≤ s.length → (toksP s f i acc).2.2 = 0 → ∃ L, (toksP s f i acc).1 = acc ++ L ++ [((⟨0, [], 0⟩ : Tk), s.length)] ∧ Lx (s.drop i) i L := by
 intro f
 induction f with
 | zero => intro i acc hf hi; omega
 | succ f ih =>
  intro i acc hf hi he
  have hsk := skipM_le false (s.drop i)
  rw [List.length_drop] at hsk
  have hdd : (s.drop i).drop (skipM false (s.drop i)) = s.drop (i + skipM false (s.drop i)) := by rw [List.drop_drop]
  have htl := tokP_len (s.drop (i + skipM false (s.drop i)))
  rw [List.length_drop] at htl
  simp only [toksP] at he ⊢
  split at he
  ·rename_i h1; exact absurd he h1
  ·rename_i h1
   rw [if_neg h1]
   obtain ⟨g1, g2, g3⟩ := htl (by simpa using h1)
   split at he
   ·rename_i hk
    rw [if_pos hk]
    have hd := g2 hk
    have hl : i + skipM false (s.drop i) = s.length := by
     have := congrArg List.length hd
     simp at this; omega
    refine ⟨[], ?_, .done (by rw [List.length_drop]; omega)⟩
    rw [hl, List.drop_length]; simp [tokP]
   ·rename_i hk
    rw [if_neg hk]
    have hne : s.drop (i + skipM false (s.drop i)) ≠ [] := by
     intro e0; rw [e0] at hk; simp [tokP] at hk
    have := g3 hne
    obtain ⟨L, hL, hx⟩ := ih _ _ (by omega) (by omega) he
    refine ⟨_ :: L, ?_, Lx.tok (t := (tokP (s.drop (i + skipM false (s.drop i)))).2.1) (n := (tokP (s.drop (i + skipM false (s.drop i)))).2.2) (by rw [hdd]; exact hne) ?_ ?_⟩
    ·rw [hL]; simp
    ·rw [hdd]
     have h1' : (tokP (s.drop (i + skipM false (s.drop i)))).1 = 0 := by simpa using h1
     rw [← h1']
    ·rw [hdd, List.drop_drop]; exact hx
theorem lx_toksP (s : List UInt8) : ∀ (f i : Nat) (acc L : List (Tk × Nat)), s.length + 1 - i ≤ f → i ≤ s.length → Lx (s.drop i) i L → toksP s f i acc = (acc ++ L ++ [((⟨0, [], 0⟩ : Tk), s.length)], 0, 0) := by
 intro f
 induction f with
 | zero => intro i acc L hf hi; omega
 | succ f ih =>
  intro i acc L hf hi hx
  have hdd : (s.drop i).drop (skipM false (s.drop i)) = s.drop (i + skipM false (s.drop i)) := by rw [List.drop_drop]
  have htl := tokP_len (s.drop (i + skipM false (s.drop i)))
  rw [List.length_drop] at htl
  simp only [toksP]
  generalize hl : s.drop i = l at *
  cases hx with
  | done h1 =>
   have : s.drop (i + skipM false l) = [] := by rw [List.drop_eq_nil_iff, h1, ← hl, List.length_drop]; omega
   have h2 : i + skipM false l = s.length := by rw [h1, ← hl, List.length_drop]; omega
   rw [this, h2]; simp [tokP]
  | @tok _ _ t n L h1 h2 h3 =>
   rw [hdd] at h1 h2 h3
   rw [h2] at htl ⊢
   obtain ⟨g1, g2, g3⟩ := htl rfl
   have hk : t.k ≠ 0 := fun e => h1 (g2 e)
   have := g3 h1
   simp only at g1 this
   rw [if_neg (by simp)]
   simp only
   rw [if_neg hk]
   have hlt : i + skipM false l < s.length := by
    rcases Nat.lt_or_ge (i + skipM false l) s.length with h' | h'
    ·exact h'
    ·exact absurd (List.drop_eq_nil_of_le h') h1
   rw [ih (i + skipM false l + n) _ L (by omega) (by omega) (by rw [← List.drop_drop]; exact h3)]
   simp
theorem Toks_lx {s : List UInt8} (h : (Toks s).2.2 = 0) : ∃ L, Toks s = (L ++ [((⟨0, [], 0⟩ : Tk), s.length)], 0, 0) ∧ Lx s 0 L := by
 have hp := (Toks_rise s).2 h
 unfold Toks at h ⊢
 unfold Toks at hp
 split at h
 ·simp at h
 ·rename_i h1
  rw [if_neg h1] at hp ⊢
  obtain ⟨L, hL, hx⟩ := toksP_lx s _ 0 [] (by omega) (Nat.zero_le _) h
  refine ⟨L, ?_, by simpa using hx⟩
  generalize toksP s (s.length + 1) 0 [] = p at *
  obtain ⟨p1, p2, p3⟩ := p
  simp only at h hL hp
  obtain ⟨hp1, _⟩ := hp
  rw [h, hL, hp1]; simp
theorem lx_Toks {s : List UInt8} {L : List (Tk × Nat)} (hl : s.length ≤ 2000) (h : Lx s 0 L) : Toks s = (L ++ [((⟨0, [], 0⟩ : Tk), s.length)], 0, 0) := by
 rw [Toks, if_neg (by omega), lx_toksP s _ 0 [] L (by omega) (Nat.zero_le _) (by simpa using h)]
 simp
/-! ### A line's end parts -/
theorem takeWhile_line {p : UInt8 → Bool} (hp : p 10 = false) : ∀ (l r : List UInt8), (l ++ 10 :: r).takeWhile p = l.takeWhile p
 | [], r => by rw [List.nil_append, List.takeWhile_cons, if_neg (by simp [hp])]; rfl
 | b :: l, r => by
  rw [List.cons_append, List.takeWhile_cons, List.takeWhile_cons, takeWhile_line hp l r]
theorem hexStep_line : ∀ (k n : Nat) (w r : List UInt8), hexStep k n (w ++ 10 :: r) = hexStep k n (w ++ [10]) ∧ ((hexStep k n (w ++ [10])).1 = 0 → k ≤ w.length)
 | 0, n, w, r => ⟨by simp [hexStep], fun _ => Nat.zero_le _⟩
 | k + 1, n, [], r => by
  have : hexV 10 = none := rfl
  simp [hexStep, this]
 | k + 1, n, a :: w, r => by
  rw [List.cons_append, List.cons_append, hexStep, hexStep]
  cases hexV a with
  | none => exact ⟨rfl, fun e => by simp at e⟩
  | some y =>
   obtain ⟨h1, h2⟩ := hexStep_line k (16 * n + y) w r
   exact ⟨h1, fun e => by have := h2 e; simp; omega⟩
theorem escP_line (w r : List UInt8) : escP (w ++ 10 :: r) = escP (w ++ [10]) ∧ ((escP (w ++ [10])).1 = 0 → (escP (w ++ [10])).2.2 ≤ w.length) := by
 cases w with
 | nil => exact ⟨rfl, fun e => by simp [escP] at e⟩
 | cons c w =>
  simp only [List.cons_append, escP]
  split
  ·simp
  ·split
   ·simp
   ·split
    ·simp
    ·split
     ·simp
     ·obtain ⟨h1, h2⟩ := hexStep_line 2 0 w r
      refine ⟨h1, fun e => ?_⟩
      have := h2 e
      have h3 := (hexStep_ok 2 0 _ e).2
      rw [h3]; simp; omega
theorem unqK_line : ∀ (w : List UInt8) (k : Nat) (acc : List UInt8) (a : Nat) (r : List UInt8), k ≤ w.length → unqK (w ++ 10 :: r) k acc a = unqK (w ++ [10]) k acc a ∧ ((unqK (w ++ [10]) k acc a).2.2 = 0 → (unqK (w ++ [10]) k acc a).2.1 ≤ a + w.length)
 | [], 0, acc, a, r, hk => by simp [unqK]
 | [], k + 1, acc, a, r, hk => by simp at hk
 | c :: w, k + 1, acc, a, r, hk => by
  rw [List.cons_append, List.cons_append, unqK, unqK]
  obtain ⟨h1, h2⟩ := unqK_line w k acc a r (by simpa using hk)
  exact ⟨h1, fun e => by have := h2 e; simp; omega⟩
 | c :: w, 0, acc, a, r, hk => by
  obtain ⟨e1, e2⟩ := escP_line w r
  simp only [List.cons_append, unqK, e1]
  split
  ·simp
  ·split
   ·split
    ·simp
    ·first | (simp; done) | (simp; omega)
   ·split
    ·split
     ·rename_i h3; exact ⟨rfl, fun e => absurd e h3⟩
     ·rename_i h3
      have h4 := e2 (by simpa using h3)
      obtain ⟨h1, h2⟩ := unqK_line w (escP (w ++ [10])).2.2 (acc ++ [(escP (w ++ [10])).2.1]) (a + 1 + (escP (w ++ [10])).2.2) r h4
      refine ⟨h1, fun e => ?_⟩
      have hb := h2 e
      rw [unqK_drop] at hb e
      have e5 : (w ++ [10]).drop (escP (w ++ [10])).2.2 = w.drop (escP (w ++ [10])).2.2 ++ [10] := by rw [List.drop_append_of_le_length h4]
      rw [e5] at hb e
      have := (unqK_line (w.drop (escP (w ++ [10])).2.2) 0 (acc ++ [(escP (w ++ [10])).2.1]) (a + 1 + (escP (w ++ [10])).2.2) r (Nat.zero_le _)).2 e
      rw [unqK_drop, e5]
      simp at this ⊢; omega
    ·split
     ·simp
     ·obtain ⟨h1, h2⟩ := unqK_line w 0 (acc ++ [c]) (a + 1) r (Nat.zero_le _)
      exact ⟨h1, fun e => by have := h2 e; simp; omega⟩
termination_by w => w.length
theorem tokP_line (c : UInt8) (w r : List UInt8) : tokP (c :: (w ++ 10 :: r)) = tokP (c :: (w ++ [10])) ∧ ((tokP (c :: (w ++ [10]))).1 = 0 → c ≠ 10 → (tokP (c :: (w ++ [10]))).2.2 ≤ w.length + 1) := by
 have t1 : ∀ r, (c :: (w ++ 10 :: r)).takeWhile digitB = (c :: w).takeWhile digitB := fun r => takeWhile_line (p := digitB) rfl (c :: w) r
 have t2 : ∀ r, (c :: (w ++ 10 :: r)).takeWhile innerB = (c :: w).takeWhile innerB := fun r => takeWhile_line (p := innerB) rfl (c :: w) r
 have t3 : unq (c :: (w ++ 10 :: r)) = unq (c :: (w ++ [10])) := by
  simp only [unq]
  rw [(unqK_line w 0 [] 1 r (Nat.zero_le _)).1]
 have t4 : (c :: (w ++ 10 :: r)).take 2 = (c :: (w ++ [10])).take 2 := by cases w <;> rfl
 have t5 : (c :: (w ++ 10 :: r)).take 1 = (c :: (w ++ [10])).take 1 := rfl
 have l1 := takeWhile_len digitB (c :: w)
 have l2 := takeWhile_len innerB (c :: w)
 refine ⟨by simp only [tokP, t1, t2, t3, t4, t5], fun he hc => ?_⟩
 simp only [tokP, t1, t2] at he ⊢
 split
 ·rename_i h1
  rw [if_pos h1] at he
  split
  ·simpa using l1
  ·simp
 ·rename_i h1
  rw [if_neg h1] at he
  split
  ·rename_i h2
   rw [if_pos h2] at he
   split
   ·rename_i h3
    have : unq (c :: (w ++ [10])) = unqK (w ++ [10]) 0 [] 1 := by rw [unq, if_neg (by simp [h2])]
    rw [this] at h3 ⊢
    have := (unqK_line w 0 [] 1 r (Nat.zero_le _)).2 h3
    simp only; omega
   ·simp
  ·split
   ·split
    ·simp
    ·simpa using l2
   ·split
    ·split
     ·rename_i h5
      cases w with
      | nil => simp at h5
      | cons b w => simp
     ·simp
    ·simp
theorem skipM_line2 : ∀ (u r : List UInt8) (b : Bool), (skipM b (u ++ [10]) ≤ u.length → skipM b (u ++ 10 :: r) = skipM b (u ++ [10])) ∧ (skipM b (u ++ [10]) = u.length + 1 → skipM b (u ++ 10 :: r) = u.length + 1 + skipM false r)
 | [], r, b => by cases b <;> simp [skipM]
 | c :: u, r, true => by
  have i1 := skipM_line2 u r true
  have i2 := skipM_line2 u r false
  simp only [List.cons_append, skipM, List.length_cons]
  split
  ·exact ⟨fun h => by rw [i2.1 (by omega)], fun h => by rw [i2.2 (by omega)]; omega⟩
  ·exact ⟨fun h => by rw [i1.1 (by omega)], fun h => by rw [i1.2 (by omega)]; omega⟩
 | c :: u, r, false => by
  have i1 := skipM_line2 u r true
  have i2 := skipM_line2 u r false
  simp only [List.cons_append, skipM, List.length_cons]
  split
  ·exact ⟨fun h => by rw [i2.1 (by omega)], fun h => by rw [i2.2 (by omega)]; omega⟩
  ·split
   ·exact ⟨fun h => by rw [i1.1 (by omega)], fun h => by rw [i1.2 (by omega)]; omega⟩
   ·exact ⟨fun _ => rfl, fun h => by omega⟩
theorem Lx.ahead {g t : List UInt8} (hg : ∀ t, skipM false (g ++ t) = g.length + skipM false t) {i : Nat} {L : List (Tk × Nat)} (h : Lx t (i + g.length) L) : Lx (g ++ t) i L := by
 have hd : (g ++ t).drop (skipM false (g ++ t)) = t.drop (skipM false t) := by rw [hg, ← List.drop_drop, List.drop_left]
 cases h with
 | done h1 => exact .done (by rw [hg, h1, List.length_append])
 | tok h1 h2 h3 =>
  have := Lx.tok (l := g ++ t) (i := i) (by rw [hd]; exact h1) (by rw [hd]; exact h2) (by rw [hd, hg, ← Nat.add_assoc]; exact h3)
  rw [hg, ← Nat.add_assoc] at this
  exact this
theorem Lx.app {l : List UInt8} {i : Nat} {L : List (Tk × Nat)} (h : Lx l i L) : ∀ (u r : List UInt8) (M : List (Tk × Nat)), l = u ++ [10] → Lx r (i + u.length + 1) M → Lx (u ++ 10 :: r) i (L ++ M) := by
 induction h with
 | @done l i h1 =>
  rintro u r M rfl hM
  have h2 := (skipM_line2 u r false).2 (by rw [h1]; simp)
  have hd : (u ++ 10 :: r).drop (skipM false (u ++ 10 :: r)) = r.drop (skipM false r) := by
   rw [h2, ← List.drop_drop, show u.length + 1 = (u ++ [10]).length by simp, show u ++ 10 :: r = (u ++ [10]) ++ r by simp, List.drop_left]
  rw [List.nil_append]
  cases hM with
  | done h3 => exact .done (by rw [h2, h3]; simp; omega)
  | tok h3 h4 h5 =>
   have := Lx.tok (l := u ++ 10 :: r) (i := i) (by rw [hd]; exact h3) (by rw [hd]; exact h4) (by rw [hd, h2, show i + (u.length + 1 + skipM false r) = i + u.length + 1 + skipM false r by omega]; exact h5)
   rw [h2, show i + (u.length + 1 + skipM false r) = i + u.length + 1 + skipM false r by omega] at this
   exact this
 | @tok l i t n L h1 h2 h3 ih =>
  rintro u r M rfl hM
  have hle : skipM false (u ++ [10]) ≤ u.length := by
   rcases Nat.lt_or_ge u.length (skipM false (u ++ [10])) with h' | h'
   ·exact absurd (List.drop_eq_nil_of_le (by simp; omega)) h1
   ·exact h'
  have hs := (skipM_line2 u r false).1 hle
  generalize hk : skipM false (u ++ [10]) = k at *
  have d1 : (u ++ [10]).drop k = u.drop k ++ [10] := by rw [List.drop_append_of_le_length hle]
  have d2 : (u ++ 10 :: r).drop k = u.drop k ++ 10 :: r := by rw [List.drop_append_of_le_length hle]
  rw [d1] at h1 h2 h3 ih
  cases hu : u.drop k with
  | nil =>
   rw [hu] at h2
   have : (tokP ([] ++ [10])).1 = 10 := rfl
   rw [h2] at this; simp at this
  | cons c w =>
   rw [hu] at h1 h2 h3 ih d2
   have hw : u.length - k = w.length + 1 := by have := congrArg List.length hu; simpa using this
   obtain ⟨q1, q2⟩ := tokP_line c w r
   have hc10 : c ≠ 10 := by
    rintro rfl
    have : (tokP (10 :: (w ++ [10]))).1 = 10 := by
     have a1 : digitB 10 = false := rfl
     have a2 : (smallB 10 || largeB 10) = false := rfl
     have a3 : signB 10 = false := rfl
     rw [tokP, if_neg (by simp [a1]), if_neg (by decide), if_neg (by simp [a2]), if_neg (by simp [a3])]
    have h2' : tokP (10 :: (w ++ [10])) = (0, t, n) := h2
    rw [h2'] at this; simp at this
   have h2' : tokP (c :: (w ++ [10])) = (0, t, n) := h2
   rw [h2'] at q1 q2
   have hn : n ≤ w.length + 1 := q2 rfl hc10
   have e1 : (c :: w ++ [10]).drop n = (c :: w).drop n ++ [10] := by rw [List.drop_append_of_le_length (by simpa using hn)]
   have e2 : (c :: w ++ 10 :: r).drop n = (c :: w).drop n ++ 10 :: r := by rw [List.drop_append_of_le_length (by simpa using hn)]
   have := ih ((c :: w).drop n) r M e1 (by
    rw [List.length_drop, List.length_cons, show i + k + n + (w.length + 1 - n) + 1 = i + u.length + 1 by omega]
    exact hM)
   have fin := Lx.tok (l := u ++ 10 :: r) (i := i) (t := t) (n := n) (L := L ++ M) (by rw [hs, d2]; simp) (by rw [hs, d2]; exact q1) (by rw [hs, d2, e2]; exact this)
   rw [hs] at fin
   exact fin
def gaps : List (List UInt8) := [[32], [10], [9, 10, 32], [10, 35, 32, 108, 101, 116, 10], [32, 35, 10]]
theorem gap_skip (m : Nat) (g : List UInt8) (h : gaps[m]? = some g) (t : List UInt8) : skipM false (g ++ t) = g.length + skipM false t := by
 match m, h with
 | 0, h => simp [gaps] at h; subst h; simp [skipM]
 | 1, h => simp [gaps] at h; subst h; simp [skipM]
 | 2, h => simp [gaps] at h; subst h; simp [skipM]; omega
 | 3, h => simp [gaps] at h; subst h; simp [skipM]; omega
 | 4, h => simp [gaps] at h; subst h; simp [skipM]; omega
 | m + 5, h => simp [gaps] at h
/-- The law, plainly. -/
theorem Toks_joined (s t g : List UInt8) (m : Nat) (hg : gaps[m]? = some g) (hs : s.length ≤ 300) (ht : t.length ≤ 300) (h1 : (Toks (s ++ [10])).2.2 = 0) (h2 : (Toks t).2.2 = 0) :
  ∃ L M, Toks (s ++ [10]) = (L ++ [((⟨0, [], 0⟩ : Tk), s.length + 1)], 0, 0) ∧ Toks t = (M ++ [((⟨0, [], 0⟩ : Tk), t.length)], 0, 0) ∧
   Toks (s ++ [10] ++ g ++ t) = (L ++ (M ++ [((⟨0, [], 0⟩ : Tk), t.length)]).map (fun p => (p.1, p.2 + (s.length + 1 + g.length))), 0, 0) := by
 obtain ⟨L, hL, xL⟩ := Toks_lx h1
 obtain ⟨M, hM, xM⟩ := Toks_lx h2
 have hgl : g.length ≤ 7 := by
  match m, hg with
  | 0, h => simp [gaps] at h; subst h; simp
  | 1, h => simp [gaps] at h; subst h; simp
  | 2, h => simp [gaps] at h; subst h; simp
  | 3, h => simp [gaps] at h; subst h; simp
  | 4, h => simp [gaps] at h; subst h; simp
  | m + 5, h => simp [gaps] at h
 refine ⟨L, M, by rw [hL]; simp, hM, ?_⟩
 have x1 := xM.shift (s.length + 1 + g.length)
 rw [Nat.zero_add] at x1
 have x2 : Lx (g ++ t) (0 + s.length + 1) (M.map fun p => (p.1, p.2 + (s.length + 1 + g.length))) := Lx.ahead (gap_skip m g hg) (by rw [show 0 + s.length + 1 + g.length = s.length + 1 + g.length by omega]; exact x1)
 have x3 := xL.app s (g ++ t) _ rfl x2
 have := lx_Toks (s := s ++ 10 :: (g ++ t)) (by simp; omega) x3
 rw [show s ++ [10] ++ g ++ t = s ++ 10 :: (g ++ t) by simp, this]
 simp
 omega
theorem skipM_idem : ∀ (l : List UInt8) (b : Bool), skipM false (l.drop (skipM b l)) = 0
 | [], b => by cases b <;> simp [skipM]
 | c :: l, true => by
  simp only [skipM]
  split
  ·rw [Nat.add_comm, List.drop_succ_cons]; exact skipM_idem l false
  ·rw [Nat.add_comm, List.drop_succ_cons]; exact skipM_idem l true
 | c :: l, false => by
  by_cases h1 : c = 32 ∨ c = 9 ∨ c = 10
  ·have : skipM false (c :: l) = 1 + skipM false l := by simp only [skipM, if_pos h1]
   rw [this, Nat.add_comm, List.drop_succ_cons]; exact skipM_idem l false
  ·by_cases h2 : c = 35
   ·have : skipM false (c :: l) = 1 + skipM true l := by simp only [skipM, if_neg h1, if_pos h2]
    rw [this, Nat.add_comm, List.drop_succ_cons]; exact skipM_idem l true
   ·have : skipM false (c :: l) = 0 := by simp only [skipM, if_neg h1, if_neg h2]
    rw [this, List.drop_zero, this]
theorem skip_all : ∀ (l : List UInt8) (b : Bool), skipM b (l.take (skipM b l) ++ [10]) = skipM b l + 1
 | [], b => by cases b <;> simp [skipM]
 | c :: l, true => by
  by_cases h : c = 10
  ·have e : skipM true (c :: l) = 1 + skipM false l := by simp only [skipM, if_pos h]
   rw [e, Nat.add_comm, List.take_succ_cons, List.cons_append]
   simp only [skipM, if_pos h, skip_all l false]; omega
  ·have e : skipM true (c :: l) = 1 + skipM true l := by simp only [skipM, if_neg h]
   rw [e, Nat.add_comm, List.take_succ_cons, List.cons_append]
   simp only [skipM, if_neg h, skip_all l true]; omega
 | c :: l, false => by
  by_cases h1 : c = 32 ∨ c = 9 ∨ c = 10
  ·have e : skipM false (c :: l) = 1 + skipM false l := by simp only [skipM, if_pos h1]
   rw [e, Nat.add_comm, List.take_succ_cons, List.cons_append]
   simp only [skipM, if_pos h1, skip_all l false]; omega
  ·by_cases h2 : c = 35
   ·have e : skipM false (c :: l) = 1 + skipM true l := by simp only [skipM, if_neg h1, if_pos h2]
    rw [e, Nat.add_comm, List.take_succ_cons, List.cons_append]
    simp only [skipM, if_neg h1, if_pos h2, skip_all l true]; omega
   ·have e : skipM false (c :: l) = 0 := by simp only [skipM, if_neg h1, if_neg h2]
    rw [e]; simp [skipM]
/-- What may stand behind a token that is cut out. -/
def Stop (X r : List UInt8) : Prop := ∀ x, X.head? = some x → (x = 32 ∨ x = 9 ∨ x = 10 ∨ x = 35) ∨ r.head? = some x
theorem takeWhile_take (f : UInt8 → Bool) : ∀ l : List UInt8, l.take (l.takeWhile f).length = l.takeWhile f
 | [] => rfl
 | c :: l => by
  rw [List.takeWhile_cons]
  split
  ·rw [List.length_cons, List.take_succ_cons, takeWhile_take f l]
  ·simp
theorem takeWhile_all (f : UInt8 → Bool) : ∀ (l : List UInt8) (x : UInt8), x ∈ l.takeWhile f → f x = true
 | [], x, h => by simp at h
 | c :: l, x, h => by
  rw [List.takeWhile_cons] at h
  split at h
  ·rename_i h1
   rcases List.mem_cons.1 h with rfl | h
   ·exact h1
   ·exact takeWhile_all f l x h
  ·cases h
theorem takeWhile_stop (f : UInt8 → Bool) : ∀ (l : List UInt8) (x : UInt8), (l.drop (l.takeWhile f).length).head? = some x → f x = false
 | [], x, h => by simp at h
 | c :: l, x, h => by
  rw [List.takeWhile_cons] at h
  split at h
  ·rw [List.length_cons, List.drop_succ_cons] at h; exact takeWhile_stop f l x h
  ·rename_i h1; simp at h; subst h; simpa using h1
theorem takeWhile_cut (f : UInt8 → Bool) (hs : f 32 = false ∧ f 9 = false ∧ f 10 = false ∧ f 35 = false) (l X : List UInt8) (hX : Stop X (l.drop (l.takeWhile f).length)) : (l.takeWhile f ++ X).takeWhile f = l.takeWhile f := by
 have key : ∀ p : List UInt8, (∀ x ∈ p, f x = true) → (∀ x, X.head? = some x → f x = false) → (p ++ X).takeWhile f = p := by
  intro p
  induction p with
  | nil =>
   intro _ h
   cases X with
   | nil => rfl
   | cons x X => rw [List.nil_append, List.takeWhile_cons, h x rfl]; rfl
  | cons a p ih =>
   intro h1 h2
   rw [List.cons_append, List.takeWhile_cons, if_pos (h1 a List.mem_cons_self), ih (fun x hx => h1 x (List.mem_cons_of_mem _ hx)) h2]
 refine key _ (fun x hx => takeWhile_all f l x hx) fun x hx => ?_
 rcases hX x hx with (rfl | rfl | rfl | rfl) | h
 ·exact hs.1
 ·exact hs.2.1
 ·exact hs.2.2.1
 ·exact hs.2.2.2
 ·exact takeWhile_stop f l x h
theorem hexStep_cut : ∀ (k n : Nat) (w r : List UInt8), k ≤ w.length → hexStep k n (w ++ r) = hexStep k n w
 | 0, n, w, r, _ => by simp [hexStep]
 | k + 1, n, [], r, h => by simp at h
 | k + 1, n, a :: w, r, h => by
  rw [List.cons_append, hexStep, hexStep]
  cases hexV a with
  | none => rfl
  | some y => exact hexStep_cut k _ w r (by simpa using h)
theorem escP_cut (l : List UInt8) (h : (escP l).1 = 0) (m : Nat) (hm : (escP l).2.2 ≤ m) (X : List UInt8) : escP (l.take m ++ X) = escP l := by
 cases l with
 | nil => simp [escP] at h
 | cons c r =>
  obtain ⟨m, rfl⟩ : ∃ q, m = q + 1 := ⟨m - 1, by have := (escP_ok _ h).1; omega⟩
  rw [List.take_succ_cons, List.cons_append]
  simp only [escP] at h hm ⊢
  split
  ·rfl
  ·rename_i h1
   rw [if_neg h1] at h hm
   split
   ·rfl
   ·rename_i h2
    rw [if_neg h2] at h hm
    split
    ·rfl
    ·rename_i h3
     rw [if_neg h3] at h hm
     split
     ·rfl
     ·rename_i h4
      rw [if_neg h4] at h hm
      obtain ⟨g1, g2⟩ := hexStep_ok 2 0 r h
      rw [g2] at hm
      have e : r.take 2 = (r.take m).take 2 := by rw [List.take_take, Nat.min_eq_left (by omega)]
      have q1 : hexStep 2 0 (r.take m ++ X) = hexStep 2 0 (r.take 2) := by
       rw [show r.take m ++ X = r.take 2 ++ ((r.take m).drop 2 ++ X) by rw [e, ← List.append_assoc, List.take_append_drop]]
       exact hexStep_cut _ _ _ _ (by simp; omega)
      have q2 : hexStep 2 0 r = hexStep 2 0 (r.take 2) := by
       conv => lhs; rw [← List.take_append_drop 2 r]
       exact hexStep_cut _ _ _ _ (by simp; omega)
      rw [q1, q2]
theorem unqK_cut : ∀ (l : List UInt8) (k : Nat) (acc : List UInt8) (a : Nat) (X : List UInt8), (unqK l k acc a).2.2 = 0 → a + 1 ≤ (unqK l k acc a).2.1 ∧ unqK (l.take ((unqK l k acc a).2.1 - a + k) ++ X) k acc a = unqK l k acc a
 | [], k, acc, a, X, h => by simp [unqK] at h
 | c :: r, k + 1, acc, a, X, h => by
  have e : unqK (c :: r) (k + 1) acc a = unqK r k acc a := by rw [unqK]
  rw [e] at h ⊢
  obtain ⟨h1, h2⟩ := unqK_cut r k acc a X h
  refine ⟨h1, ?_⟩
  rw [show (unqK r k acc a).2.1 - a + (k + 1) = ((unqK r k acc a).2.1 - a + k) + 1 by omega, List.take_succ_cons, List.cons_append, unqK]
  exact h2
 | c :: r, 0, acc, a, X, h => by
  by_cases c1 : c = 10
  ·simp [unqK, c1] at h
  by_cases c2 : c = 34
  ·by_cases c3 : 60 < acc.length
   ·simp [unqK, c2, c3] at h
   ·have e : ∀ r, unqK (c :: r) 0 acc a = (acc, a + 1, 0) := fun r => by simp [unqK, c2, c3]
    rw [e]
    refine ⟨Nat.le_refl _, ?_⟩
    rw [show a + 1 - a + 0 = 0 + 1 by omega, List.take_succ_cons, List.cons_append, e]
  by_cases c4 : c = 92
  ·by_cases c5 : (escP r).1 ≠ 0
   ·simp [unqK, c4, c5] at h
   ·have c5' : (escP r).1 = 0 := by simpa using c5
    have e : unqK (c :: r) 0 acc a = unqK r (escP r).2.2 (acc ++ [(escP r).2.1]) (a + 1 + (escP r).2.2) := by simp [unqK, c4, c5']
    rw [e] at h ⊢
    obtain ⟨h1, h2⟩ := unqK_cut r _ _ _ X h
    generalize hu : (unqK r (escP r).2.2 (acc ++ [(escP r).2.1]) (a + 1 + (escP r).2.2)).2.1 = n at h1 h2 ⊢
    refine ⟨by omega, ?_⟩
    have hp := escP_ok r c5'
    rw [show n - a + 0 = (n - (a + 1 + (escP r).2.2) + (escP r).2.2) + 1 by omega, List.take_succ_cons, List.cons_append]
    have q := escP_cut r c5' (n - (a + 1 + (escP r).2.2) + (escP r).2.2) (by omega) X
    have e2 : ∀ r', escP r' = escP r → unqK (c :: r') 0 acc a = unqK r' (escP r).2.2 (acc ++ [(escP r).2.1]) (a + 1 + (escP r).2.2) := fun r' he => by simp [unqK, c4, he, c5']
    rw [e2 _ q]
    exact h2
  by_cases c6 : plainB c = false
  ·simp [unqK, c1, c2, c4, c6] at h
  have e : ∀ r, unqK (c :: r) 0 acc a = unqK r 0 (acc ++ [c]) (a + 1) := fun r => by simp [unqK, c1, c2, c4, c6]
  rw [e] at h ⊢
  obtain ⟨h1, h2⟩ := unqK_cut r _ _ _ X h
  refine ⟨by omega, ?_⟩
  generalize hu : (unqK r 0 (acc ++ [c]) (a + 1)).2.1 = n at h1 h2 ⊢
  rw [show n - a + 0 = (n - (a + 1) + 0) + 1 by omega, List.take_succ_cons, List.cons_append, e]
  exact h2
theorem tokP_cut {l : List UInt8} {t : Tk} {n : Nat} (hl : l ≠ []) (h : tokP l = (0, t, n)) (X : List UInt8) (hX : Stop X (l.drop n)) : 1 ≤ n ∧ tokP (l.take n ++ X) = (0, t, n) := by
 cases l with
 | nil => exact absurd rfl hl
 | cons c r =>
 have digS : digitB 32 = false ∧ digitB 9 = false ∧ digitB 10 = false ∧ digitB 35 = false := ⟨rfl, rfl, rfl, rfl⟩
 have innS : innerB 32 = false ∧ innerB 9 = false ∧ innerB 10 = false ∧ innerB 35 = false := ⟨rfl, rfl, rfl, rfl⟩
 have hn1 : 1 ≤ n := by
  have := (tokP_len (c :: r) (by rw [h])).2.2 hl
  rw [h] at this; exact this
 refine ⟨hn1, ?_⟩
 obtain ⟨m, rfl⟩ : ∃ m, n = m + 1 := ⟨n - 1, by omega⟩
 have hc : (c :: r).take (m + 1) ++ X = c :: (r.take m ++ X) := by rw [List.take_succ_cons, List.cons_append]
 simp only [tokP] at h
 by_cases h1 : digitB c = true
 ·rw [if_pos h1] at h
  split at h
  ·rename_i hv
   injection h with _ h; injection h with ht hn
   have tk := takeWhile_take digitB (c :: r)
   have cut := takeWhile_cut digitB digS (c :: r) X (by rw [hn]; exact hX)
   rw [hn] at tk
   conv at cut => lhs; rw [← tk]
   rw [hc] at cut ⊢
   simp only [tokP]
   rw [if_pos h1, cut, if_pos hv, ht, hn]
  ·cases h
 rw [if_neg h1] at h
 by_cases h2 : c = 34
 ·rw [if_pos h2] at h
  split at h
  ·rename_i hu
   injection h with _ h; injection h with ht hn
   have e : ∀ r, unq (c :: r) = unqK r 0 [] 1 := fun r => by rw [unq, if_neg (by simp [h2])]
   rw [e] at hu ht hn
   obtain ⟨g1, g2⟩ := unqK_cut r 0 [] 1 X hu
   rw [hn] at g1 g2
   rw [show m + 1 - 1 + 0 = m by omega] at g2
   rw [hc]
   simp only [tokP]
   rw [if_neg h1, if_pos h2, e, g2, if_pos hu, ht, hn]
  ·rename_i hu; exact absurd (congrArg Prod.fst h) hu
 rw [if_neg h2] at h
 by_cases h3 : (smallB c || largeB c) = true
 ·rw [if_pos h3] at h
  split at h
  ·cases h
  ·rename_i hv
   injection h with _ h; injection h with ht hn
   have tk := takeWhile_take innerB (c :: r)
   have cut := takeWhile_cut innerB innS (c :: r) X (by rw [hn]; exact hX)
   rw [hn] at tk
   conv at cut => lhs; rw [← tk]
   rw [hc] at cut ⊢
   simp only [tokP]
   rw [if_neg h1, if_neg h2, if_pos h3, cut, if_neg hv, ht, hn]
 rw [if_neg h3] at h
 by_cases h4 : signB c = true
 ·rw [if_pos h4] at h
  rw [hc]
  simp only [tokP]
  rw [if_neg h1, if_neg h2, if_neg h3, if_pos h4]
  split at h
  ·rename_i h5
   injection h with _ h; injection h with ht hn
   have hm : m = 1 := by omega
   subst hm
   cases r with
   | nil => simp at h5
   | cons b r =>
    have : (c :: (List.take 1 (b :: r) ++ X)).take 2 = [c, b] := rfl
    rw [this]
    have h5' : [c, b] = [45, 62] := h5
    rw [if_pos h5', ← ht]; rfl
  ·rename_i h5
   injection h with _ h; injection h with ht hn
   have hm : m = 0 := by omega
   subst hm
   have h6 : ¬ (c :: (List.take 0 r ++ X)).take 2 = [45, 62] := by
    intro h6
    rw [List.take_zero, List.nil_append] at h6
    cases X with
    | nil => simp at h6
    | cons x X =>
     have h7 : [c, x] = [45, 62] := h6
     injection h7 with h8 h9
     injection h9 with h9 _
     rcases hX x rfl with (g | g | g | g) | g
     ·rw [g] at h9; exact absurd h9 (by decide)
     ·rw [g] at h9; exact absurd h9 (by decide)
     ·rw [g] at h9; exact absurd h9 (by decide)
     ·rw [g] at h9; exact absurd h9 (by decide)
     ·cases r with
      | nil => simp at g
      | cons b r =>
       have : b = x := by simpa using g
       apply h5
       show [c, b] = [45, 62]
       rw [this, h8, h9]
   rw [if_neg h6, ← ht]; rfl
 ·rw [if_neg h4] at h; simp at h
/-! ### Sources, token by token -/
/-- A text has these tokens, wherever it stands. -/
def LexAs (r : List UInt8) (R : List Tk) : Prop := ∀ i, ∃ L, Lx r i L ∧ L.map (·.1) = R
theorem LexAs.nil : LexAs [] [] := fun i => ⟨[], .done rfl, rfl⟩
theorem LexAs.blank {r : List UInt8} {R : List Tk} (h : LexAs r R) : LexAs (32 :: r) R := fun i => by
 obtain ⟨L, h1, h2⟩ := h (i + 1)
 exact ⟨L, Lx.ahead (g := [32]) (fun t => by simp [skipM]) h1, h2⟩
theorem LexAs.tok {c : UInt8} {r : List UInt8} {R : List Tk} {t : Tk} (n : Nat) (hs : skipM false (c :: r) = 0) (ht : tokP (c :: r) = (0, t, n)) (h : LexAs ((c :: r).drop n) R) : LexAs (c :: r) (t :: R) := fun i => by
 obtain ⟨L, h1, h2⟩ := h (i + n)
 refine ⟨(t, i) :: L, ?_, by simp [h2]⟩
 have := Lx.tok (l := c :: r) (i := i) (t := t) (n := n) (L := L) (by rw [hs]; simp) (by rw [hs]; exact ht) (by rw [hs]; exact h1)
 rw [hs] at this
 exact this
theorem LexAs.toks {s : List UInt8} {R : List Tk} (h : LexAs s R) (hl : s.length ≤ 2000) : (Toks s).2.2 = 0 ∧ (Toks s).1.map (·.1) = R ++ [⟨0, [], 0⟩] := by
 obtain ⟨L, h1, h2⟩ := h 0
 have := lx_Toks hl h1
 rw [this]
 exact ⟨rfl, by rw [List.map_append, h2]; rfl⟩
/-! ### The parser's state at a row of tokens -/
section
variable {T : List Tok}
def Cur (T : List Tok) (s : PS) (l : List Tk) : Prop := s.e = 0 ∧ (T.map (·.1)).drop s.at_ = l
theorem Cur.look {s : PS} {t : Tk} {r : List Tk} (h : Cur T s (t :: r)) : (look T s).1 = t := by
 obtain ⟨he, hd⟩ := h
 have h1 : (T.map (·.1))[s.at_]? = some t := by
  have := congrArg List.head? hd
  rw [List.head?_drop] at this
  exact this
 rw [List.getElem?_map] at h1
 rw [Go.Proofs.YtdohdncgjendkaaDoor.look, if_neg (by simpa using he), List.getD_eq_getElem?_getD]
 cases hT : T[s.at_]? with
 | none => rw [hT] at h1; cases h1
 | some q => rw [hT] at h1; injection h1
theorem Cur.take {s : PS} {t : Tk} {r : List Tk} (h : Cur T s (t :: r)) (hk : t.k ≠ 0) : Cur T (takeS T s) r := by
 have hl := h.look
 rw [takeS, if_pos ⟨h.1, by rw [hl]; exact hk⟩]
 refine ⟨h.1, ?_⟩
 have := congrArg (List.drop 1) h.2
 rw [List.drop_drop] at this
 exact this
theorem Cur.isW {s : PS} {t : Tk} {r : List Tk} (h : Cur T s (t :: r)) (w : List UInt8) : isW T w s = ((decide (t.k = 5) || decide (t.k = 6)) && decide (t.t = w)) := by
 rw [Go.Proofs.YtdohdncgjendkaaDoor.isW, h.look]
theorem Cur.must {s : PS} {t : Tk} {r : List Tk} (h : Cur T s (t :: r)) {w : List UInt8} (hw : Go.Proofs.YtdohdncgjendkaaDoor.isW T w s = true) (hk : t.k ≠ 0) : Cur T (mustS T w s) r := by
 rw [mustS, if_pos hw]; exact h.take hk
theorem Cur.word {s : PS} {t : Tk} {r : List Tk} (h : Cur T s (t :: r)) {k : Int} (hk : t.k = k) : wordS T k s = s := by
 rw [wordS, h.look, if_neg (by simp [hk])]
theorem Cur.same {s s' : PS} {l : List Tk} (h : Cur T s l) (h1 : s'.at_ = s.at_) (h2 : s'.e = s.e) : Cur T s' l := ⟨by rw [h2]; exact h.1, by rw [h1]; exact h.2⟩
/-- What ends an exp. -/
def stopT (t : Tk) : Prop := t.k = 0 ∨ (t.k = 5 ∧ t.t = [41]) ∨ (t.k = 6 ∧ (t.t = wEnd ∨ t.t = wWith))
def stp (T : List Tok) (s : PS) : Prop := stopT (look T s).1
theorem stp_bad {s : PS} (h : s.e ≠ 0) : stp T s := .inl (by rw [look_bad h]; rfl)
theorem Cur.stp {s : PS} {t : Tk} {r : List Tk} (h : Cur T s (t :: r)) (ht : stopT t) : stp T s := by rw [Go.Proofs.YtdohdncgjendkaaDoor.stp, h.look]; exact ht
theorem stp_isW {s : PS} (h : stp T s) (w : List UInt8) (hw : w ≠ [41] ∧ w ≠ wEnd ∧ w ≠ wWith) : isW T w s = false := by
 rw [isW]
 rcases h with h | ⟨h, h'⟩ | ⟨h, h' | h'⟩
 ·simp [h]
 ·simp [h']; intro _; exact fun e => hw.1 e.symm
 ·simp [h']; intro _; exact fun e => hw.2.1 e.symm
 ·simp [h']; intro _; exact fun e => hw.2.2 e.symm
theorem stp_begins {s : PS} (h : stp T s) : begins T s = false := by
 unfold begins
 rw [stp_isW h _ (by decide), stp_isW h _ (by decide), stp_isW h _ (by decide), stp_isW h _ (by decide)]
 rcases h with h | ⟨h, _⟩ | ⟨h, _⟩ <;> simp [h]
theorem stp_sign {s : PS} (h : stp T s) (mul : Bool) : ¬ ((look T s).1.k = 5 ∧ (look T s).1.t ∈ signsOf mul) := by
 rintro ⟨h1, h2⟩
 rcases h with h | ⟨h, h'⟩ | ⟨h, _⟩
 ·rw [h] at h1; exact absurd h1 (by decide)
 ·rw [h'] at h2; cases mul <;> simp [signsOf] at h2
 ·rw [h] at h1; exact absurd h1 (by decide)
/-- No key that an exp, or what is called, begins with. -/
def plainK (t : Tk) : Prop := ¬ (t.k = 6 ∧ (t.t = wLet ∨ t.t = wFun ∨ t.t = wIf ∨ (kindOf t.t).1 > 0))
theorem app_atom {f : Nat} {s s' : PS} {n : Nd} (hk : plainK (look T s).1) (hr : run T f .app s = some (n, s')) : ∃ f1 n1 s1, run T f1 .atom s = some (n1, s1) ∧ (stp T s1 → s' = s1) := by
 cases f with
 | zero => cases hr
 | succ f =>
 rw [run_app, if_neg (fun h => hk ⟨h.1, .inr (.inr (.inr h.2))⟩)] at hr
 dsimp only at hr
 split at hr
 ·rename_i n1 s1 h1
  refine ⟨f, n1, s1, h1, fun hs => ?_⟩
  cases f with
  | zero => cases hr
  | succ f =>
   rw [run_appLoop, if_neg (by rw [stp_begins hs]; simp)] at hr
   injection hr with hr; injection hr with _ hr; exact hr.symm
 ·cases hr
theorem sums_atom {f : Nat} {mul : Bool} {s s' : PS} {n : Nd} (hk : plainK (look T s).1) (hr : run T f (.sums mul) s = some (n, s')) : ∃ f1 n1 s1, run T f1 .atom s = some (n1, s1) ∧ (stp T s1 → s' = s1) := by
 have key : ∀ (f : Nat) (mul : Bool) (n : Nd) (s' : PS), (∀ f n s', run T f (if mul then .app else .sums true) s = some (n, s') → ∃ f1 n1 s1, run T f1 .atom s = some (n1, s1) ∧ (stp T s1 → s' = s1)) → run T f (.sums mul) s = some (n, s') → ∃ f1 n1 s1, run T f1 .atom s = some (n1, s1) ∧ (stp T s1 → s' = s1) := by
  intro f mul n s' hsub hr
  cases f with
  | zero => cases hr
  | succ f =>
  rw [run_sums] at hr
  split at hr
  ·rename_i n1 s1 h1
   obtain ⟨f1, n2, s2, h2, h3⟩ := hsub _ _ _ h1
   refine ⟨f1, n2, s2, h2, fun hs => ?_⟩
   have e := h3 hs
   subst e
   cases f with
   | zero => cases hr
   | succ f =>
    rw [run_sumLoop, if_neg (stp_sign hs mul)] at hr
    injection hr with hr; injection hr with _ hr; exact hr.symm
  ·cases hr
 have ktrue : ∀ f n s', run T f (.sums true) s = some (n, s') → ∃ f1 n1 s1, run T f1 .atom s = some (n1, s1) ∧ (stp T s1 → s' = s1) := fun f n s' hr => key f true n s' (fun f n s' h => app_atom hk h) hr
 cases mul with
 | true => exact ktrue _ _ _ hr
 | false => exact key f false n s' (fun f n s' h => ktrue f n s' h) hr
theorem exp_atom {f : Nat} {s s' : PS} {n : Nd} (hk : plainK (look T s).1) (hr : run T f .exp s = some (n, s')) : ∃ f1 n1 s1, run T f1 .atom s = some (n1, s1) ∧ (stp T s1 → s' = s1) := by
 cases f with
 | zero => cases hr
 | succ f =>
 rw [run_exp, if_neg (fun h => hk ⟨h.1, .inl h.2⟩), if_neg (fun h => hk ⟨h.1, .inr (.inl h.2)⟩), if_neg (fun h => hk ⟨h.1, .inr (.inr (.inl h.2))⟩)] at hr
 split at hr
 ·rename_i n1 s1 h1
  have hc : ∃ f1 n2 s2, run T f1 .atom s = some (n2, s2) ∧ (stp T s2 → s1 = s2) := by
   cases f with
   | zero => cases h1
   | succ f =>
   rw [run_cmp] at h1
   split at h1
   ·rename_i n2 s2 h2
    obtain ⟨f1, n3, s3, h3, h4⟩ := sums_atom hk h2
    refine ⟨f1, n3, s3, h3, fun hs => ?_⟩
    have e := h4 hs
    subst e
    rw [if_neg (by rw [stp_isW hs _ (by decide), stp_isW hs _ (by decide)]; simp)] at h1
    injection h1 with h1; injection h1 with _ h1; exact h1.symm
   ·cases h1
  obtain ⟨f1, n2, s2, h2, h3⟩ := hc
  refine ⟨f1, n2, s2, h2, fun hs => ?_⟩
  have e := h3 hs
  subst e
  rw [if_neg (by rw [stp_isW hs _ (by decide)]; simp)] at hr
  injection hr with hr; injection hr with _ hr; exact hr.symm
 ·cases hr
/-- What is one deeper, from a state that is no error. -/
theorem in_inv {rn : PS → Option (Nd × PS)} {s s' : PS} {n : Nd} (he : s.e = 0) (hr : inR T rn s = some (n, s')) : (40 ≤ s.deep ∧ s' = fail T 15 s) ∨ (s.deep < 40 ∧ ∃ s2, rn { s with deep := s.deep + 1 } = some (n, s2) ∧ s' = { s2 with deep := s2.deep - 1 }) := by
 simp only [inR] at hr
 rcases Int.lt_or_le s.deep 40 with h | h
 ·have hS : (if s.deep ≥ 40 then fail T 15 s else s) = s := if_neg (by omega)
  rw [hS, if_neg (by simpa using he)] at hr
  split at hr
  ·rename_i n2 s2 h2
   injection hr with hr; injection hr with r1 r2
   subst r1
   exact .inr ⟨h, s2, h2, r2.symm⟩
  ·cases hr
 ·have hS : (if s.deep ≥ 40 then fail T 15 s else s) = fail T 15 s := if_pos h
  rw [hS, if_pos (fail_e (by decide) _)] at hr
  injection hr with hr; injection hr with r1 r2
  exact .inl ⟨h, r2.symm⟩
theorem whole_inv {rn : PS → Option (Nd × PS)} {s s' : PS} {n : Nd} (he : s.e = 0) (hf : s.flat = false) (hr : wholeR T rn s = some (n, s')) : (40 ≤ s.deep ∧ s'.e = 15 ∧ s'.bad = pos T s) ∨ (s.deep < 40 ∧ ∃ s2, rn { s with deep := s.deep + 1 } = some (n, s2) ∧ s' = { s2 with deep := s2.deep - 1, flat := false }) := by
 have hs : ({ s with flat := false } : PS) = s := by obtain ⟨a, b, c, d, e⟩ := s; simp only at hf; subst hf; rfl
 unfold wholeR at hr
 rw [hs, hf] at hr
 split at hr
 ·rename_i n2 s2 h2
  injection hr with hr; injection hr with r1 r2
  subst r1; subst r2
  rcases in_inv he h2 with ⟨h3, rfl⟩ | ⟨h3, s3, h4, rfl⟩
  ·refine .inl ⟨h3, ?_, ?_⟩
   ·simp [Go.Proofs.YtdohdncgjendkaaDoor.fail, he]
   ·simp [Go.Proofs.YtdohdncgjendkaaDoor.fail, he, pos]
  ·exact .inr ⟨h3, s3, h4, rfl⟩
 ·cases hr
theorem pos_up (hT : Srt T) {s : PS} (hi : Inv T s) (he : s.e = 0) (ha : 0 < s.at_) : 0 < pos T s := by
 have h1 := look_real hi he
 have h0 : (0 : Nat) < T.length := by have := hi.lt; omega
 have := hT 0 s.at_ _ _ ha (List.getElem?_eq_getElem h0) h1
 simp only [pos]; omega
/-- How an exp ends that is as deep as may be, or deeper. -/
def Fin (T : List Tok) (s s' : PS) (m : Nat) (l : List Tk) : Prop := (s.deep + m ≤ 40 → Cur T s' l ∧ s'.flat = false) ∧ (40 < s.deep + m → s'.e = 15 ∧ 0 < s'.bad)
theorem Fin.of_bad {s s' : PS} {m : Nat} {l : List Tk} (h : 40 < s.deep + m) (h1 : s'.e = 15) (h2 : 0 < s'.bad) : Fin T s s' m l := ⟨fun h' => by omega, fun _ => ⟨h1, h2⟩⟩
theorem Ok.bad15 {s s' : PS} (h : Ok T s s') (h1 : s.e = 15) (h2 : 0 < s.bad) : s'.e = 15 ∧ 0 < s'.bad := by
 obtain ⟨_, h3, h4⟩ := h.st (by rw [h1]; decide)
 exact ⟨by rw [h4, h1], by rw [h3]; exact h2⟩
def tLp : Tk := ⟨5, [40], 0⟩
def tRp : Tk := ⟨5, [41], 0⟩
def t7 : Tk := ⟨1, [], 7⟩
def tFun : Tk := ⟨6, wFun, 0⟩
def tX : Tk := ⟨3, [120], 0⟩
def tArr : Tk := ⟨5, wArrow, 0⟩
def tMatch : Tk := ⟨6, wMatch, 0⟩
def t1 : Tk := ⟨1, [], 1⟩
def tWith : Tk := ⟨6, wWith, 0⟩
def tBar : Tk := ⟨5, [124], 0⟩
def tAny : Tk := ⟨5, [95], 0⟩
def tEnd : Tk := ⟨6, wEnd, 0⟩
/-- A number. -/
theorem num_exp {f : Nat} {s s' : PS} {n : Nd} {x t : Tk} {rest : List Tk} (ht : t.k = 1) (hc : Cur T s (t :: x :: rest)) (hx : stopT x) (hr : run T f .exp s = some (n, s')) : Cur T s' (x :: rest) ∧ s' = takeS T s := by
 obtain ⟨f1, n1, s1, h1, h2⟩ := exp_atom (by rw [hc.look]; exact fun h => by rw [ht] at h; exact absurd h.1 (by decide)) hr
 cases f1 with
 | zero => cases h1
 | succ f1 =>
 rw [run_atom] at h1
 have e : ∀ w, isW T w s = false := fun w => by rw [hc.isW, ht]; rfl
 simp only [e, Bool.false_eq_true, if_false] at h1
 injection h1 with h1
 have hl : leaf T leafK s = (.mk (leafK 1) t.t t.n (look T s).2 [] [], takeS T s) := by
  unfold leaf; rw [hc.look, ht, if_neg (by decide)]
 rw [hl] at h1
 injection h1 with _ h1
 subst h1
 have h3 := hc.take (by rw [ht]; decide)
 rw [h2 (h3.stp hx)]
 exact ⟨h3, rfl⟩
theorem take_fl (s : PS) : (takeS T s).flat = s.flat ∧ (takeS T s).deep = s.deep := ⟨take_flat s, take_deep s⟩
theorem must_flat (w : List UInt8) (s : PS) : (mustS T w s).flat = s.flat := by
 unfold mustS; split
 ·exact take_flat s
 ·unfold Go.Proofs.YtdohdncgjendkaaDoor.fail; split <;> rfl
theorem deep0 (hT : Srt T) : ∀ (m f : Nat) (s : PS) (n : Nd) (s' : PS) (x : Tk) (rest : List Tk), Inv T s → 0 < s.at_ → s.flat = false → s.deep ≤ 40 → stopT x → Cur T s (List.replicate m tLp ++ t7 :: (List.replicate m tRp ++ x :: rest)) → run T f .exp s = some (n, s') → Fin T s s' m (x :: rest) := by
 intro m
 induction m with
 | zero =>
  intro f s n s' x rest hi ha hfl hd hx hc hr
  obtain ⟨h1, h2⟩ := num_exp rfl hc hx hr
  exact ⟨fun _ => ⟨h1, by rw [h2, take_flat, hfl]⟩, fun h => by omega⟩
 | succ m ih =>
  intro f s n s' x rest hi ha hfl hd hx hc hr
  rw [List.replicate_succ, List.cons_append] at hc
  obtain ⟨f1, n1, s1, h1, h2⟩ := exp_atom (by rw [hc.look]; exact fun h => absurd h.1 (by decide)) hr
  cases f1 with
  | zero => cases h1
  | succ f1 =>
  have e : ∀ w, isW T w s = decide ([40] = w) := fun w => by rw [hc.isW]; rfl
  rw [run_atom, if_neg (by rw [e]; decide), if_neg (by rw [e]; decide), if_neg (by rw [e]; decide), if_pos (by rw [e]; decide)] at h1
  dsimp only at h1
  have hc1 := hc.take (by decide)
  have hi1 := hi.take
  have fl1 : (takeS T s).flat = false := by rw [take_flat, hfl]
  have d1 : (takeS T s).deep = s.deep := take_deep s
  have a1 : 0 < (takeS T s).at_ := Nat.lt_of_lt_of_le ha (Ok.take s).at_
  have hnot : isW T [41] (takeS T s) = false := by
   cases m with
   | zero => rw [Cur.isW (t := t7) (r := _) hc1]; rfl
   | succ m => rw [List.replicate_succ, List.cons_append] at hc1; rw [Cur.isW hc1]; rfl
  rw [if_neg (by rw [hnot]; simp)] at h1
  split at h1
  ·rename_i n2 s2 h3
   injection h1 with h1; injection h1 with _ h1
   generalize takeS T s = S at hc1 hi1 fl1 d1 a1 h3
   rcases whole_inv hc1.1 fl1 h3 with ⟨h4, h5, h6⟩ | ⟨h4, s3, h5, h6⟩
   ·have hb : s1.e = 15 ∧ 0 < s1.bad := by
     rw [← h1]
     exact (Ok.must [41] s2).bad15 h5 (by rw [h6]; exact pos_up hT hi1 hc1.1 a1)
    rw [h2 (stp_bad (by rw [hb.1]; decide))]
    exact Fin.of_bad (by omega) hb.1 hb.2
   ·have hrep : List.replicate (m + 1) tRp ++ x :: rest = List.replicate m tRp ++ tRp :: (x :: rest) := by rw [List.replicate_succ', List.append_assoc]; rfl
    rw [hrep] at hc1
    obtain ⟨g1, g2⟩ := ih f1 { S with deep := S.deep + 1 } n2 s3 tRp (x :: rest) hi1.deepen a1 fl1 (by simp only; omega) (.inr (.inl ⟨rfl, rfl⟩)) (hc1.same rfl rfl) h5
    simp only at g1 g2
    by_cases hd40 : s.deep + (m + 1 : Nat) ≤ 40
    ·obtain ⟨q1, q2⟩ := g1 (by omega)
     have q3 : Cur T s2 (tRp :: x :: rest) := by rw [h6]; exact q1.same rfl rfl
     have q4 : Cur T s1 (x :: rest) := by rw [← h1]; exact q3.must (by rw [q3.isW]; rfl) (by decide)
     rw [h2 (q4.stp hx)]
     exact ⟨fun _ => ⟨q4, by rw [← h1, must_flat, h6]⟩, fun h => by omega⟩
    ·obtain ⟨q1, q2⟩ := g2 (by omega)
     have hb : s1.e = 15 ∧ 0 < s1.bad := by
      rw [← h1]
      exact (Ok.must [41] s2).bad15 (by rw [h6]; exact q1) (by rw [h6]; exact q2)
     rw [h2 (stp_bad (by rw [hb.1]; decide))]
     exact Fin.of_bad (by omega) hb.1 hb.2
  ·cases h1
theorem deep1 (hT : Srt T) : ∀ (m f : Nat) (s : PS) (n : Nd) (s' : PS) (x : Tk) (rest : List Tk), Inv T s → 0 < s.at_ → s.flat = false → s.deep ≤ 40 → stopT x → Cur T s ((List.replicate m [tFun, tX, tArr]).flatten ++ t7 :: x :: rest) → run T f .exp s = some (n, s') → Fin T s s' m (x :: rest) := by
 intro m
 induction m with
 | zero =>
  intro f s n s' x rest hi ha hfl hd hx hc hr
  obtain ⟨h1, h2⟩ := num_exp rfl hc hx hr
  exact ⟨fun _ => ⟨h1, by rw [h2, take_flat, hfl]⟩, fun h => by omega⟩
 | succ m ih =>
  intro f s n s' x rest hi ha hfl hd hx hc hr
  rw [List.replicate_succ, List.flatten_cons, List.append_assoc] at hc
  replace hc : Cur T s (tFun :: tX :: tArr :: ((List.replicate m [tFun, tX, tArr]).flatten ++ t7 :: x :: rest)) := hc
  cases f with
  | zero => cases hr
  | succ f =>
  rw [run_exp, if_neg (by rw [hc.look]; decide), if_pos (by rw [hc.look]; decide)] at hr
  cases f with
  | zero => cases hr
  | succ f =>
  rw [run_funE] at hr
  dsimp only at hr
  have hc1 := hc.take (by decide)
  rw [hc1.word (k := 3) rfl] at hr
  have hc2 := hc1.take (by decide)
  have hc3 := hc2.must (w := wArrow) (by rw [hc2.isW]; rfl) (by decide)
  have hi3 := hi.take.take.must wArrow
  have ok : Ok T s (mustS T wArrow (takeS T (takeS T s))) := ((Ok.take s).trans (.take _)).trans (.must _ _)
  have fl3 : (mustS T wArrow (takeS T (takeS T s))).flat = false := by rw [must_flat, take_flat, take_flat, hfl]
  have a3 := Nat.lt_of_lt_of_le ha ok.at_
  have d3 := ok.deep
  generalize mustS T wArrow (takeS T (takeS T s)) = S at hr hc3 hi3 fl3 a3 d3
  split at hr
  ·rename_i n2 s2 h3
   injection hr with hr; injection hr with _ hr
   subst hr
   rcases in_inv hc3.1 h3 with ⟨h4, h5⟩ | ⟨h4, s3, h5, h6⟩
   ·subst h5
    refine Fin.of_bad (by omega) (by simp [Go.Proofs.YtdohdncgjendkaaDoor.fail, hc3.1]) ?_
    have := pos_up hT hi3 hc3.1 a3
    simp only [Go.Proofs.YtdohdncgjendkaaDoor.fail, hc3.1, if_true]
    exact this
   ·obtain ⟨g1, g2⟩ := ih f { S with deep := S.deep + 1 } n2 s3 x rest hi3.deepen a3 fl3 (by simp only; omega) hx (hc3.same rfl rfl) h5
    simp only at g1 g2
    subst h6
    by_cases hd40 : s.deep + (m + 1 : Nat) ≤ 40
    ·obtain ⟨q1, q2⟩ := g1 (by omega)
     exact ⟨fun _ => ⟨q1.same rfl rfl, q2⟩, fun h => by omega⟩
    ·obtain ⟨q1, q2⟩ := g2 (by omega)
     exact Fin.of_bad (by omega) q1 q2
  ·cases hr
theorem any_pat {f : Nat} {s s' : PS} {n : Nd} {rest : List Tk} (hc : Cur T s (tAny :: rest)) (hr : run T f .pat s = some (n, s')) : s' = takeS T s := by
 cases f with
 | zero => cases hr
 | succ f =>
 rw [run_pat] at hr
 dsimp only at hr
 rw [show decide ((look T s).1.k = 4) = false by rw [hc.look]; rfl] at hr
 split at hr
 ·rename_i n1 s1 h1
  cases f with
  | zero => cases h1
  | succ f =>
  have e : isW T [95] s = true := by rw [hc.isW]; rfl
  rw [run_patom, if_pos e] at h1
  injection h1 with h1; injection h1 with _ h1
  rw [run_patLoop, if_neg (by simp)] at hr
  injection hr with hr; injection hr with _ hr
  rw [← hr, ← h1, mayS, if_pos e]
 ·cases hr
def opM : List Tk := [tMatch, t1, tWith, tBar, tAny, tArr]
set_option maxHeartbeats 1000000 in
theorem deep2 (hT : Srt T) : ∀ (m f : Nat) (s : PS) (n : Nd) (s' : PS) (x : Tk) (rest : List Tk), Inv T s → 0 < s.at_ → s.flat = false → s.deep ≤ 40 → stopT x → Cur T s ((List.replicate m opM).flatten ++ t7 :: (List.replicate m tEnd ++ x :: rest)) → run T f .exp s = some (n, s') → Fin T s s' m (x :: rest) := by
 intro m
 induction m with
 | zero =>
  intro f s n s' x rest hi ha hfl hd hx hc hr
  obtain ⟨h1, h2⟩ := num_exp rfl hc hx hr
  exact ⟨fun _ => ⟨h1, by rw [h2, take_flat, hfl]⟩, fun h => by omega⟩
 | succ m ih =>
  intro f s n s' x rest hi ha hfl hd hx hc hr
  have hrep : List.replicate (m + 1) tEnd ++ x :: rest = List.replicate m tEnd ++ tEnd :: (x :: rest) := by rw [List.replicate_succ', List.append_assoc]; rfl
  rw [List.replicate_succ, List.flatten_cons, List.append_assoc, hrep] at hc
  generalize hX : (List.replicate m opM).flatten ++ t7 :: (List.replicate m tEnd ++ tEnd :: (x :: rest)) = XX at hc
  replace hc : Cur T s (tMatch :: t1 :: tWith :: tBar :: tAny :: tArr :: XX) := hc
  obtain ⟨f1, n1, s1, h1, h2⟩ := exp_atom (by rw [hc.look]; exact fun h => by rcases h.2 with h | h | h | h <;> exact absurd h (by decide)) hr
  cases f1 with
  | zero => cases h1
  | succ f1 =>
  rw [run_atom, if_pos (by rw [hc.isW]; rfl)] at h1
  cases f1 with
  | zero => cases h1
  | succ f1 =>
  rw [run_matchE] at h1
  dsimp only at h1
  have hc1 := hc.take (by decide)
  have hi1 := hi.take
  have fl1 : (takeS T s).flat = false := by rw [take_flat, hfl]
  have d1 : (takeS T s).deep = s.deep := take_deep s
  have a1 : 0 < (takeS T s).at_ := Nat.lt_of_lt_of_le ha (Ok.take s).at_
  generalize takeS T s = S at hc1 hi1 fl1 d1 a1 h1
  split at h1
  case h_2 => cases h1
  rename_i x2 s2 h3
  split at h1
  case h_2 => cases h1
  rename_i x3 s3 h4
  injection h1 with h1; injection h1 with _ h1
  have ok4 := run_ok _ _ _ _ _ h4
  have bad : s2.e = 15 → 0 < s2.bad → 40 < s.deep + (m + 1 : Nat) → Fin T s s' (m + 1) (x :: rest) := by
   intro b1 b2 b3
   have hb : s1.e = 15 ∧ 0 < s1.bad := by
    rw [← h1]
    exact (((Ok.must wWith s2).trans ok4).trans (.must wEnd s3)).bad15 b1 b2
   rw [h2 (stp_bad (by rw [hb.1]; decide))]
   exact Fin.of_bad b3 hb.1 hb.2
  rcases whole_inv hc1.1 fl1 h3 with ⟨g1, g2, g3⟩ | ⟨g1, s5, g2, g3⟩
  ·exact bad g2 (by rw [g3]; exact pos_up hT hi1 hc1.1 a1) (by omega)
  have hcd : Cur T { S with deep := S.deep + 1 } (t1 :: tWith :: tBar :: tAny :: tArr :: XX) := hc1.same rfl rfl
  obtain ⟨k1, k2⟩ := num_exp rfl hcd (.inr (.inr ⟨rfl, .inr rfl⟩)) g2
  have hi5 : Inv T s5 := by rw [k2]; exact (hi1.deepen).take
  have at5 : S.at_ ≤ s5.at_ := by rw [k2]; exact (Ok.take { S with deep := S.deep + 1 }).at_
  have d5 : s5.deep = S.deep + 1 := by rw [k2, take_deep]
  have hc2 : Cur T s2 (tWith :: tBar :: tAny :: tArr :: XX) := by rw [g3]; exact k1.same rfl rfl
  have hi2 : Inv T s2 := by
   rw [g3]
   exact ⟨hi5.lt, hi5.end_, hi5.len, by simp only; have := hi1.deep; omega⟩
  have d2 : s2.deep = s.deep := by rw [g3]; simp only; omega
  have a2 : 0 < s2.at_ := by rw [g3]; exact Nat.lt_of_lt_of_le a1 at5
  have fl2 : s2.flat = false := by rw [g3]
  clear g2 g3 k1 k2 hcd hi5 at5 d5 h3
  have hc3 := hc2.must (w := wWith) (by rw [hc2.isW]; rfl) (by decide)
  have hi3 := hi2.must wWith
  have ok3 := Ok.must (T := T) wWith s2
  have fl3 : (mustS T wWith s2).flat = false := by rw [must_flat, fl2]
  have a3 := Nat.lt_of_lt_of_le a2 ok3.at_
  have d3 := ok3.deep
  -- the one row
  cases f1 with
  | zero => cases h4
  | succ f1 =>
  rw [run_matchLoop, if_pos (by simp)] at h4
  have hm : mostS T (((node 11 (look T s).2 [] [x2]).ks.length / 2 : Nat) : Int) 20 (mustS T wWith s2) = mustS T wWith s2 := by
   rw [mostS, if_neg (by simp [node, Nd.ks])]
  rw [hm] at h4
  have hc4 := hc3.must (w := [124]) (by rw [hc3.isW]; rfl) (by decide)
  have hi4 := hi3.must [124]
  have okb := Ok.must (T := T) [124] (mustS T wWith s2)
  have fl4 : (mustS T [124] (mustS T wWith s2)).flat = false := by rw [must_flat, fl3]
  have a4 := Nat.lt_of_lt_of_le a3 okb.at_
  have d4 := okb.deep
  rw [d3, d2] at d4
  generalize mustS T [124] (mustS T wWith s2) = U at h4 hc4 hi4 fl4 a4 d4
  split at h4
  case h_2 => cases h4
  rename_i x6 s6 h6
  split at h4
  case h_2 => cases h4
  rename_i x7 s7 h7
  rcases in_inv hc4.1 h6 with ⟨q1, q2⟩ | ⟨q1, s8, q2, q3⟩
  ·omega
  have q4 := any_pat (s := { U with deep := U.deep + 1 }) (hc4.same rfl rfl) q2
  have hc8 : Cur T s8 (tArr :: XX) := by rw [q4]; exact Cur.take (t := tAny) (hc4.same rfl rfl) (by decide)
  have ok8 : Ok T { U with deep := U.deep + 1 } s8 := by rw [q4]; exact Ok.take _
  have hi8 := ok8.inv hi4.deepen
  have d8 := ok8.deep
  have at8 := ok8.at_
  simp only at d8 at8
  have fl8 : s8.flat = false := by rw [q4, take_flat]; exact fl4
  have hc6 : Cur T s6 (tArr :: XX) := by rw [q3]; exact hc8.same rfl rfl
  have hi6 : Inv T s6 := by rw [q3]; exact ⟨hi8.lt, hi8.end_, hi8.len, by simp only; have := hi4.deep; omega⟩
  have d6 : s6.deep = s.deep := by rw [q3]; simp only; omega
  have a6 : 0 < s6.at_ := by rw [q3]; simp only; omega
  have fl6 : s6.flat = false := by rw [q3]; exact fl8
  have hc9 := hc6.must (w := wArrow) (by rw [hc6.isW]; rfl) (by decide)
  have hi9 := hi6.must wArrow
  have ok9 := Ok.must (T := T) wArrow s6
  have fl9 : (mustS T wArrow s6).flat = false := by rw [must_flat, fl6]
  have a9 := Nat.lt_of_lt_of_le a6 ok9.at_
  have d9 := ok9.deep
  rw [d6] at d9
  generalize mustS T wArrow s6 = V at h7 hc9 hi9 fl9 a9 d9
  have okr := run_ok _ _ _ _ _ h4
  have bad7 : s7.e = 15 → 0 < s7.bad → 40 < s.deep + (m + 1 : Nat) → Fin T s s' (m + 1) (x :: rest) := by
   intro b1 b2 b3
   have hb : s1.e = 15 ∧ 0 < s1.bad := by
    rw [← h1]
    exact (okr.trans (.must wEnd s3)).bad15 b1 b2
   rw [h2 (stp_bad (by rw [hb.1]; decide))]
   exact Fin.of_bad b3 hb.1 hb.2
  rcases whole_inv hc9.1 fl9 h7 with ⟨p1, p2, p3⟩ | ⟨p1, s9, p2, p3⟩
  ·omega
  subst hX
  obtain ⟨r1, r2⟩ := ih _ { V with deep := V.deep + 1 } _ s9 tEnd (x :: rest) hi9.deepen a9 fl9 (by simp only; omega) (.inr (.inr ⟨rfl, .inl rfl⟩)) (hc9.same rfl rfl) p2
  simp only at r1 r2
  by_cases hd40 : s.deep + (m + 1 : Nat) ≤ 40
  ·obtain ⟨z1, z2⟩ := r1 (by omega)
   have z3 : Cur T s7 (tEnd :: x :: rest) := by rw [p3]; exact z1.same rfl rfl
   have z4 : s7.flat = false := by rw [p3]
   cases f1 with
   | zero => cases h4
   | succ f1 =>
   rw [run_matchLoop, if_neg (by rw [z3.isW]; decide)] at h4
   injection h4 with h4; injection h4 with _ h4
   have z5 : Cur T s1 (x :: rest) := by rw [← h1, ← h4]; exact z3.must (by rw [z3.isW]; rfl) (by decide)
   rw [h2 (z5.stp hx)]
   exact ⟨fun _ => ⟨z5, by rw [← h1, ← h4, must_flat, z4]⟩, fun h => by omega⟩
  ·obtain ⟨z1, z2⟩ := r2 (by omega)
   exact bad7 (by rw [p3]; exact z1) (by rw [p3]; exact z2) (by omega)
end
def tDo : Tk := ⟨6, wDo, 0⟩
def tZ : Tk := ⟨0, [], 0⟩
theorem prog_deep {T : List Tok} (hT : Srt T) (hi : Inv T ps0) (m : Nat) {body : List Tk} (hc : Cur T ps0 (tDo :: (body ++ [tZ])))
  (hd : ∀ (f : Nat) (s : PS) (n : Nd) (s' : PS), Inv T s → 0 < s.at_ → s.flat = false → s.deep ≤ 40 → Cur T s (body ++ [tZ]) → run T f .exp s = some (n, s') → Fin T s s' m [tZ]) {f : Nat} {n : Nd} {q : PS} (hr : run T f .program ps0 = some (n, q)) :
  (m ≤ 39 → q.e = 0) ∧ (40 ≤ m → q.e = 15 ∧ 0 < q.bad) := by
 cases f with
 | zero => cases hr
 | succ f =>
 rw [run_program] at hr
 split at hr
 case h_2 => cases hr
 rename_i n1 s1 h1
 split at hr
 case h_2 => cases hr
 rename_i n2 s2 h2
 injection hr with hr; injection hr with _ hr
 have e1 : s1 = ps0 := by
  cases f with
  | zero => cases h1
  | succ f =>
   rw [run_declLoop, if_neg (by rw [hc.isW, hc.isW]; decide)] at h1
   injection h1 with h1; injection h1 with _ h1; exact h1.symm
 subst e1
 have hc1 := hc.must (w := wDo) (by rw [hc.isW]; rfl) (by decide)
 have hi1 := hi.must wDo
 have fl1 : (mustS T wDo ps0).flat = false := by rw [must_flat]; rfl
 have d1 : (mustS T wDo ps0).deep = 0 := by rw [must_deep]; rfl
 have a1 : 0 < (mustS T wDo ps0).at_ := by
  rw [mustS, if_pos (by rw [hc.isW]; rfl), takeS, if_pos ⟨rfl, by rw [hc.look]; decide⟩]; exact Nat.zero_lt_one
 generalize mustS T wDo ps0 = S at h2 hc1 hi1 fl1 d1 a1
 rcases in_inv hc1.1 h2 with ⟨q1, _⟩ | ⟨q1, s3, q2, q3⟩
 ·omega
 obtain ⟨g1, g2⟩ := hd f { S with deep := S.deep + 1 } n2 s3 hi1.deepen a1 fl1 (by simp only; omega) (hc1.same rfl rfl) q2
 simp only at g1 g2
 refine ⟨fun hm => ?_, fun hm => ?_⟩
 ·obtain ⟨z1, z2⟩ := g1 (by omega)
  have z3 : Cur T s2 [tZ] := by rw [q3]; exact z1.same rfl rfl
  rw [if_neg (by rw [z3.look]; decide)] at hr
  rw [← hr]; exact z3.1
 ·obtain ⟨z1, z2⟩ := g2 (by omega)
  have z3 : s2.e = 15 := by rw [q3]; exact z1
  have z4 : 0 < s2.bad := by rw [q3]; exact z2
  rw [if_neg (by rw [look_bad (by rw [z3]; decide)]; decide)] at hr
  rw [← hr]; exact ⟨z3, z4⟩
def opS (k : Nat) : List UInt8 := [[40], [102, 117, 110, 32, 120, 32, 45, 62, 32], [109, 97, 116, 99, 104, 32, 49, 32, 119, 105, 116, 104, 32, 124, 32, 95, 32, 45, 62, 32]].getD k []
def clS (k : Nat) : List UInt8 := [[41], [], [32, 101, 110, 100]].getD k []
def opR (k m : Nat) : List UInt8 := (List.replicate m (opS k)).flatten
def clR (k m : Nat) : List UInt8 := (List.replicate m (clS k)).flatten
def deepS (k m : Nat) : List UInt8 := [100, 111, 32] ++ opR k m ++ [55] ++ clR k m
theorem lex_do {r : List UInt8} {R : List Tk} (h : LexAs r R) : LexAs (100 :: 111 :: 32 :: r) (tDo :: R) := .tok 2 (by simp [skipM]) (by kernel_rfl) (.blank h)
theorem lex_rp {r : List UInt8} {R : List Tk} (h : LexAs r R) : LexAs (41 :: r) (tRp :: R) := .tok 1 (by simp [skipM]) (by kernel_rfl) h
theorem lex_lp {r : List UInt8} {R : List Tk} (h : LexAs r R) : LexAs (40 :: r) (tLp :: R) := .tok 1 (by simp [skipM]) (by kernel_rfl) h
theorem lex_fun {r : List UInt8} {R : List Tk} (h : LexAs r R) : LexAs (102 :: 117 :: 110 :: 32 :: 120 :: 32 :: 45 :: 62 :: 32 :: r) (tFun :: tX :: tArr :: R) :=
 .tok 3 (by simp [skipM]) (by kernel_rfl) (.blank (.tok 1 (by simp [skipM]) (by kernel_rfl) (.blank (.tok 2 (by simp [skipM]) (by kernel_rfl) (.blank h)))))
theorem lex_match {r : List UInt8} {R : List Tk} (h : LexAs r R) : LexAs (109 :: 97 :: 116 :: 99 :: 104 :: 32 :: 49 :: 32 :: 119 :: 105 :: 116 :: 104 :: 32 :: 124 :: 32 :: 95 :: 32 :: 45 :: 62 :: 32 :: r) (tMatch :: t1 :: tWith :: tBar :: tAny :: tArr :: R) :=
 .tok 5 (by simp [skipM]) (by kernel_rfl) (.blank (.tok 1 (by simp [skipM]) (by kernel_rfl) (.blank (.tok 4 (by simp [skipM]) (by kernel_rfl) (.blank (.tok 1 (by simp [skipM]) (by kernel_rfl) (.blank (.tok 1 (by simp [skipM]) (by kernel_rfl) (.blank (.tok 2 (by simp [skipM]) (by kernel_rfl) (.blank h)))))))))))
theorem lex_cl0 : ∀ m, LexAs (clR 0 m) (List.replicate m tRp)
 | 0 => .nil
 | m + 1 => by
  have : clR 0 (m + 1) = 41 :: clR 0 m := by simp [clR, clS, List.replicate_succ]
  rw [this, List.replicate_succ]; exact lex_rp (lex_cl0 m)
theorem lex_cl2 : ∀ m, LexAs (clR 2 m) (List.replicate m tEnd)
 | 0 => .nil
 | m + 1 => by
  have e : ∀ m, clR 2 (m + 1) = 32 :: 101 :: 110 :: 100 :: clR 2 m := fun m => by simp [clR, clS, List.replicate_succ]
  rw [e, List.replicate_succ]
  refine .blank ?_
  cases m with
  | zero => exact .tok 3 (by simp [skipM]) (by kernel_rfl) .nil
  | succ m =>
   have := lex_cl2 (m + 1)
   rw [e] at this ⊢
   exact .tok 3 (by simp [skipM]) (by kernel_rfl) this
theorem lex_7 (k m : Nat) (hk : k < 3) : ∃ R, LexAs (55 :: clR k m) (t7 :: R) ∧ (k = 0 → R = List.replicate m tRp) ∧ (k = 1 → R = []) ∧ (k = 2 → R = List.replicate m tEnd) := by
 match k, hk with
 | 0, _ =>
  refine ⟨_, ?_, fun _ => rfl, fun h => by omega, fun h => by omega⟩
  have h := lex_cl0 m
  cases m with
  | zero => exact .tok 1 (by simp [skipM]) (by kernel_rfl) h
  | succ m =>
   have e : clR 0 (m + 1) = 41 :: clR 0 m := by simp [clR, clS, List.replicate_succ]
   rw [e] at h ⊢
   exact .tok 1 (by simp [skipM]) (by kernel_rfl) h
 | 1, _ =>
  refine ⟨[], ?_, fun h => by omega, fun _ => rfl, fun h => by omega⟩
  have e : clR 1 m = [] := by
   have : ∀ m : Nat, (List.replicate m ([] : List UInt8)).flatten = [] := fun m => by induction m with
    | zero => rfl
    | succ m ih => rw [List.replicate_succ, List.flatten_cons, ih]; rfl
   exact this m
  rw [e]
  exact .tok 1 (by simp [skipM]) (by kernel_rfl) .nil
 | 2, _ =>
  refine ⟨_, ?_, fun h => by omega, fun h => by omega, fun _ => rfl⟩
  have h := lex_cl2 m
  cases m with
  | zero => exact .tok 1 (by simp [skipM]) (by kernel_rfl) h
  | succ m =>
   have e : clR 2 (m + 1) = 32 :: 101 :: 110 :: 100 :: clR 2 m := by simp [clR, clS, List.replicate_succ]
   rw [e] at h ⊢
   exact .tok 1 (by simp [skipM]) (by kernel_rfl) h
theorem lex_op (k : Nat) (hk : k < 3) {r : List UInt8} {R : List Tk} (h : LexAs r R) : ∀ m, ∃ P, LexAs (opR k m ++ r) (P ++ R) ∧ (k = 0 → P = List.replicate m tLp) ∧ (k = 1 → P = (List.replicate m [tFun, tX, tArr]).flatten) ∧ (k = 2 → P = (List.replicate m opM).flatten)
 | 0 => ⟨[], h, fun _ => rfl, fun _ => rfl, fun _ => rfl⟩
 | m + 1 => by
  obtain ⟨P, h1, h2, h3, h4⟩ := lex_op k hk h m
  match k, hk with
  | 0, _ =>
   have e : opR 0 (m + 1) ++ r = 40 :: (opR 0 m ++ r) := by simp [opR, opS, List.replicate_succ]
   rw [e]
   exact ⟨tLp :: P, lex_lp h1, fun _ => by rw [h2 rfl]; rfl, fun h => by omega, fun h => by omega⟩
  | 1, _ =>
   have e : opR 1 (m + 1) ++ r = 102 :: 117 :: 110 :: 32 :: 120 :: 32 :: 45 :: 62 :: 32 :: (opR 1 m ++ r) := by simp [opR, opS, List.replicate_succ]
   rw [e]
   exact ⟨tFun :: tX :: tArr :: P, lex_fun h1, fun h => by omega, fun _ => by rw [h3 rfl, List.replicate_succ, List.flatten_cons]; rfl, fun h => by omega⟩
  | 2, _ =>
   have e : opR 2 (m + 1) ++ r = 109 :: 97 :: 116 :: 99 :: 104 :: 32 :: 49 :: 32 :: 119 :: 105 :: 116 :: 104 :: 32 :: 124 :: 32 :: 95 :: 32 :: 45 :: 62 :: 32 :: (opR 2 m ++ r) := by simp [opR, opS, List.replicate_succ]
   rw [e]
   exact ⟨tMatch :: t1 :: tWith :: tBar :: tAny :: tArr :: P, lex_match h1, fun h => by omega, fun h => by omega, fun _ => by rw [h4 rfl, List.replicate_succ, List.flatten_cons]; rfl⟩
theorem rep_len (a : List UInt8) (b : Nat) (h : a.length ≤ b) : ∀ m, (List.replicate m a).flatten.length ≤ b * m
 | 0 => by simp
 | m + 1 => by rw [List.replicate_succ, List.flatten_cons, List.length_append]; have := rep_len a b h m; rw [Nat.mul_succ]; omega
theorem opS_len {k : Nat} (hk : k < 3) : (opS k).length ≤ 20 ∧ (clS k).length ≤ 4 := by
 match k, hk with
 | 0, _ | 1, _ | 2, _ => exact ⟨by decide, by decide⟩
/-- The law, plainly. -/
theorem deep_law (k m : Nat) (hk : k < 3) (hm : m ≤ 60) : (m < 40 → (progR (deepS k m)).2.2 = 0 ∧ (progR (deepS k m)).2.1 = 0) ∧ (40 ≤ m → (progR (deepS k m)).2.2 = 15 ∧ 0 < (progR (deepS k m)).2.1) := by
 obtain ⟨R, h7, R0, R1, R2⟩ := lex_7 k m hk
 obtain ⟨P, hP, P0, P1, P2⟩ := lex_op k hk h7 m
 have hS : deepS k m = 100 :: 111 :: 32 :: (opR k m ++ 55 :: clR k m) := by simp [deepS]
 have hlen : (deepS k m).length ≤ 2000 := by
  have h1 := rep_len (opS k) 20 (opS_len hk).1 m
  have h2 := rep_len (clS k) 4 (opS_len hk).2 m
  simp only [deepS, opR, clR, List.length_append, List.length_cons, List.length_nil]
  omega
 obtain ⟨te, tk⟩ := (hS ▸ lex_do hP : LexAs (deepS k m) _).toks hlen
 have hT := toks_srt te
 have hi := toks_inv te
 have hc : Cur (Toks (deepS k m)).1 ps0 (tDo :: ((P ++ t7 :: R) ++ [tZ])) := ⟨rfl, by rw [tk]; simp [ps0, tZ]⟩
 obtain ⟨n, q, hq⟩ := prog_some te
 have key := prog_deep hT hi m hc (fun f s n s' i a fl d c r => by
  match k, hk with
  | 0, _ =>
   rw [P0 rfl, R0 rfl] at c
   exact deep0 hT m f s n s' tZ [] i a fl d (.inl rfl) (by simpa using c) r
  | 1, _ =>
   rw [P1 rfl, R1 rfl] at c
   exact deep1 hT m f s n s' tZ [] i a fl d (.inl rfl) (by simpa using c) r
  | 2, _ =>
   rw [P2 rfl, R2 rfl] at c
   exact deep2 hT m f s n s' tZ [] i a fl d (.inl rfl) (by simpa using c) r) hq
 unfold progR
 rw [if_neg (by simpa using te), hq]
 simp only
 refine ⟨fun h => ?_, fun h => ?_⟩
 ·rw [if_neg (by simpa using key.1 (by omega))]; exact ⟨rfl, rfl⟩
 ·obtain ⟨k1, k2⟩ := key.2 h
  rw [if_pos (by rw [k1]; decide)]; exact ⟨k1, k2⟩
def opL : List (List UInt8) := [[40], [102, 117, 110, 32, 120, 32, 45, 62, 32], [109, 97, 116, 99, 104, 32, 49, 32, 119, 105, 116, 104, 32, 124, 32, 95, 32, 45, 62, 32]]
def clL : List (List UInt8) := [[41], [], [32, 101, 110, 100]]
theorem op_at {k : Nat} (hk : k < 3) : (opL.map AV.str)[k]? = some (.str (opS k)) ∧ (clL.map AV.str)[k]? = some (.str (clS k)) := by
 match k, hk with
 | 0, _ | 1, _ | 2, _ => exact ⟨rfl, rfl⟩
theorem op_snoc (k m : Nat) : opR k (m + 1) = opR k m ++ opS k ∧ clR k (m + 1) = clR k m ++ clS k := by
 simp only [opR, clR, List.replicate_succ', List.flatten_append, List.flatten_cons, List.flatten_nil, List.append_nil]; exact ⟨trivial, trivial⟩
/-- A number, turned to one that is none below nought: what the code reckons. -/
theorem turn_up (n : Int) (hn : -9223372036854775808 ≤ n ∧ n ≤ 9223372036854775807) : ∃ N : Nat, (if n < 0 then IntKind.wrap .i64 (0 - IntKind.wrap .i64 (n + 1)) else n) = (N : Int) := by
 split
 ·exact ⟨(-(n + 1)).toNat, by rw [wrap_i64 (n := n + 1) (by omega) (by omega), wrap_i64 (by omega) (by omega)]; omega⟩
 ·exact ⟨n.toNat, by omega⟩
set_option maxHeartbeats 8000000 in
theorem deepLaw (n kind : Int) (hn : -9223372036854775808 ≤ n ∧ n ≤ 9223372036854775807) (hk : -9223372036854775808 ≤ kind ∧ kind ≤ 9223372036854775807) : Does X 4 [.int .i64 n, .int .i64 kind] s0 fun v _ => v = .bool true := by
 refine call_aw b4 rfl rfl rfl ?_; delta b4
 obtain ⟨N, hN⟩ := turn_up n hn
 obtain ⟨K, hK⟩ := turn_up kind hk
 have hgp : ∀ e : AEnv, partsV (ev e) 1 [(.val (.str [40])), (.val (.str [102, 117, 110, 32, 120, 32, 45, 62, 32])), (.val (.str [109, 97, 116, 99, 104, 32, 49, 32, 119, 105, 116, 104, 32, 124, 32, 95, 32, 45, 62, 32]))] = some (opL.map AV.str) := fun e => by kernel_rfl
 have hlp : ∀ e : AEnv, partsV (ev e) 1 [(.val (.str [41])), (.val (.str [])), (.val (.str [32, 101, 110, 100]))] = some (clL.map AV.str) := fun e => by kernel_rfl
 have hat := fun k => @op_at k
 generalize opL.map AV.str = OV at hgp hat
 generalize clL.map AV.str = CV at hlp hat
 have modN : ((N : Int)).tmod 61 = ((N % 61 : Nat) : Int) := by rw [show (61 : Int) = ((61 : Nat) : Int) from rfl, ← Int.ofNat_tmod]
 have modK : ((K : Int)).tmod 3 = ((K % 3 : Nat) : Int) := by rw [show (3 : Int) = ((3 : Nat) : Int) from rfl, ← Int.ofNat_tmod]
 have hm : N % 61 < 61 := Nat.mod_lt _ (by decide)
 have hk3 : K % 3 < 3 := Nat.mod_lt _ (by decide)
 generalize N % 61 = m at modN hm
 generalize K % 3 = k at modK hk3
 obtain ⟨a1, a2⟩ := hat k hk3
 obtain ⟨l1, l2⟩ := opS_len hk3
 have lo := fun j => rep_len (opS k) 20 l1 j
 have lc := fun j => rep_len (clS k) 4 l2 j
 have law := deep_law k m hk3 (by omega)
 have d3 : decide ((3 : Int) = 0) = false := rfl
 have d61 : decide ((61 : Int) = 0) = false := rfl
 have n3 : ¬ (3 : Int) = 0 := by decide
 have n61 : ¬ (61 : Int) = 0 := by decide
 have dN : decide ((N : Int) < 0) = false := by simp
 have dK : decide ((K : Int) < 0) = false := by simp
 cases h1 : decide (n < 0)
 all_goals
  cases h2 : decide (kind < 0)
  all_goals
   (first | rw [if_neg (by simpa using h1)] at hN | rw [if_pos (by simpa using h1)] at hN)
   (first | rw [if_neg (by simpa using h2)] at hK | rw [if_pos (by simpa using h2)] at hK)
   simp -dsimp -implicitDefEqProofs only [go_sem, Nat.reduceAdd, Nat.reduceEqDiff, reduceIte, reduceCtorEq, Nat.reduceLeDiff, Nat.reduceLT, Nat.reduceSub, Int.reduceEq, Int.reduceLT, h1, h2, hN, hK, modN, modK, n3, n61, dN, dK, hgp, hlp]
   let I : Nat → AEnv → ASt → Prop := fun q e st => ∃ (j : Nat), q = m - j ∧ j ≤ m ∧ e.get 0 = .int .i64 (m : Int) ∧ e.get 5 = .int .i64 (k : Int) ∧ e.get 6 = .slice .full OV ∧ e.get 7 = .slice .full CV ∧ e.get 8 = .str ([100, 111, 32] ++ opR k j) ∧ e.get 9 = .str (clR k j) ∧ e.get 10 = .int .i64 (j : Int) ∧ st = s0
   refine LoopK_rule I m ⟨0, rfl, Nat.zero_le _, rfl, rfl, rfl, rfl, rfl, rfl, rfl, rfl⟩ ?_
   rintro q e st ⟨j, rfl, hj, g0, g5, g6, g7, g8, g9, g10, rfl⟩
   have lo1 := lo j
   have lc1 := lc j
   change (opR k j).length ≤ _ at lo1
   change (clR k j).length ≤ _ at lc1
   obtain ⟨s1, s2⟩ := op_snoc k j
   simp -dsimp -implicitDefEqProofs only [go_sem, Nat.reduceAdd, Nat.reduceEqDiff, reduceIte, reduceCtorEq, Nat.reduceLeDiff, Nat.reduceLT, Nat.reduceSub, Int.reduceEq, Int.reduceLT, g0, g10, s0]
   refine CondV_split (fun hc => ?_) fun hc => ?_
   ·have hj' : j < m := by simp at hc; omega
    have w1 : IntKind.wrap .i64 ((j : Int) + 1) = ((j + 1 : Nat) : Int) := by rw [wrap_i64 (by omega) (by omega)]; rfl
    have n1 : ([100, 111, 32] ++ opR k j).length + (opS k).length ≤ 9223372036854775807 := by simp; omega
    have n2 : (clR k j).length + (clS k).length ≤ 9223372036854775807 := by omega
    generalize hP : ([100, 111, 32] : List UInt8) ++ opR k j = P at g8 n1
    simp -dsimp -implicitDefEqProofs only [go_sem, Nat.reduceAdd, Nat.reduceEqDiff, reduceIte, reduceCtorEq, Nat.reduceLeDiff, Nat.reduceLT, Nat.reduceSub, Int.reduceEq, Int.reduceLT, g5, g6, g7, g8, g9, g10, a1, a2, elemA, ldCells, n1, n2, w1]
    refine Again.of (m - (j + 1)) (by omega) ⟨j + 1, rfl, hj', g0, g5, g6, g7, ?_, ?_, rfl, rfl⟩
    ·rw [s1, ← List.append_assoc, hP]; rfl
    ·rw [s2]; rfl
   ·have hjm : j = m := by simp at hc; omega
    subst hjm
    have n1 : ([100, 111, 32] ++ opR k j).length + ([55] : List UInt8).length ≤ 9223372036854775807 := by simp; omega
    have n2 : ([100, 111, 32] ++ opR k j ++ [55]).length + (clR k j).length ≤ 9223372036854775807 := by simp; omega
    have hS : [100, 111, 32] ++ opR k j ++ [55] ++ clR k j = deepS k j := rfl
    generalize hP : ([100, 111, 32] : List UInt8) ++ opR k j = P at g8 n1 n2 hS
    have n1' : P.length ≤ 9223372036854775806 := by simp at n1; omega
    generalize hQ : P ++ [55] = Q at n2 hS
    simp -dsimp -implicitDefEqProofs only [go_sem, Nat.reduceAdd, Nat.reduceEqDiff, reduceIte, reduceCtorEq, Nat.reduceLeDiff, Nat.reduceLT, Nat.reduceSub, Int.reduceEq, Int.reduceLT, preH, g0, g8, g9, n1, n1', n2, hQ, hS]
    refine DoesK_of (prog_call (deepS k j) _ _ _) ?_
    rintro v st ⟨nv, rfl, N1, H1, C1, rfl, f1⟩
    obtain ⟨o1, o2, es, rfl, E1⟩ := N1.inv
    have Z1 : H1 0 = some (.cells zeroN) := (f1.at (by omega) (by simp)).trans (upd_same _ _ _)
    by_cases h40 : j < 40
    ·obtain ⟨r1, r2⟩ := law.1 h40
     have dj : decide ((j : Int) < 40) = true := by simp; omega
     have e1 : decide ((progR (deepS k j)).2.2 = 0) = true := by simpa using r1
     have e2 : decide ((progR (deepS k j)).2.1 = 0) = true := by simpa using r2
     simp -dsimp -implicitDefEqProofs only [go_sem, Nat.reduceAdd, Nat.reduceEqDiff, reduceIte, reduceCtorEq, Nat.reduceLeDiff, Nat.reduceLT, Nat.reduceSub, Int.reduceEq, Int.reduceLT, OpK_alloc, Z1, zeroN, ldCells, g0, dj, e1, e2]
     refine DoesK_of (lives_call _ _ _) ?_
     rintro v st ⟨rfl, h', c', rfl, f⟩
     simp -dsimp -implicitDefEqProofs only [go_sem, Nat.reduceAdd, Nat.reduceEqDiff, reduceIte, reduceCtorEq, Nat.reduceLeDiff, Nat.reduceLT, Nat.reduceSub, Int.reduceEq, Int.reduceLT]
    ·obtain ⟨r1, r2⟩ := law.2 (by omega)
     have dj : decide ((j : Int) < 40) = false := by simp; omega
     have e1 : decide ((progR (deepS k j)).2.2 = 15) = true := by simpa using r1
     have e2 : decide ((progR (deepS k j)).2.1 > 0) = true := by simpa using r2
     simp -dsimp -implicitDefEqProofs only [go_sem, Nat.reduceAdd, Nat.reduceEqDiff, reduceIte, reduceCtorEq, Nat.reduceLeDiff, Nat.reduceLT, Nat.reduceSub, Int.reduceEq, Int.reduceLT, OpK_alloc, Z1, zeroN, ldCells, g0, dj, e1, e2]
     refine DoesK_of (lives_call _ _ _) ?_
     rintro v st ⟨rfl, h', c', rfl, f⟩
     simp -dsimp -implicitDefEqProofs only [go_sem, Nat.reduceAdd, Nat.reduceEqDiff, reduceIte, reduceCtorEq, Nat.reduceLeDiff, Nat.reduceLT, Nat.reduceSub, Int.reduceEq, Int.reduceLT]
end Go.Proofs.YtdohdncgjendkaaDoor
