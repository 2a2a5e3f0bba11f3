/- Two sources, one behind the other. LexJoined: the walk. -/
import Derived.Test.YtggdpckdlcngpaaDoorLD
set_option linter.unusedVariables false
set_option linter.unusedSimpArgs false
namespace Go.Proofs.YtggdpckdlcngpaaDoor
open Abs Go.RowKit

/-- A source's tokens but for the end, from a place on. -/
inductive Lx : List UInt8 → Nat → List (Tk × Nat) → Prop
  | done {l : List UInt8} {i : Nat} : skipM false l = l.length → Lx l i []
  | tok {l : List UInt8} {i : Nat} {t : Tk} {n : Nat} {L : List (Tk × Nat)} : l.drop (skipM false l) ≠ [] → tokP (l.drop (skipM false l)) = (0, t, n) → Lx ((l.drop (skipM false l)).drop n) (i + skipM false l + n) L → Lx l i ((t, i + skipM false l) :: L)

theorem Lx.shift {l : List UInt8} {i : Nat} {L : List (Tk × Nat)} (d : Nat) (h : Lx l i L) : Lx l (i + d) (L.map fun p => (p.1, p.2 + d)) := by
  induction h with
  | done h1 => exact .done h1
  | @tok l i t n L h1 h2 h3 ih =>
    have := Lx.tok (i := i + d) h1 h2 (by rw [show i + d + skipM false l + n = i + skipM false l + n + d by omega]; exact ih)
    rw [List.map_cons]
    rw [show i + d + skipM false l = i + skipM false l + d by omega] at this
    exact this

theorem tok_k {l : List UInt8} (h : l ≠ []) (he : (tokP l).1 = 0) : (tokP l).2.1.k ≠ 0 := fun e => h ((tokP_len l he).2.1 e)

theorem toksP_lx (s : List UInt8) : ∀ (f i : Nat) (acc : List (Tk × Nat)), s.length + 1 - i ≤ f → i ≤ s.length → (toksP s f i acc).2.2 = 0 → ∃ L, (toksP s f i acc).1 = acc ++ L ++ [((⟨0, [], 0⟩ : Tk), s.length)] ∧ Lx (s.drop i) i L := by
  intro f
  induction f with
  | zero => intro i acc hf hi; omega
  | succ f ih =>
    intro i acc hf hi he
    have hsk := skipM_le false (s.drop i)
    rw [List.length_drop] at hsk
    have hdd : (s.drop i).drop (skipM false (s.drop i)) = s.drop (i + skipM false (s.drop i)) := by rw [List.drop_drop]
    have htl := tokP_len (s.drop (i + skipM false (s.drop i)))
    rw [List.length_drop] at htl
    simp only [toksP] at he ⊢
    split at he
    · rename_i h1; exact absurd he h1
    · rename_i h1
      rw [if_neg h1]
      obtain ⟨g1, g2, g3⟩ := htl (by simpa using h1)
      split at he
      · rename_i hk
        rw [if_pos hk]
        have hd := g2 hk
        have hl : i + skipM false (s.drop i) = s.length := by
          have := congrArg List.length hd
          simp at this; omega
        refine ⟨[], ?_, .done (by rw [List.length_drop]; omega)⟩
        rw [hl, List.drop_length]; simp [tokP]
      · rename_i hk
        rw [if_neg hk]
        have hne : s.drop (i + skipM false (s.drop i)) ≠ [] := by
          intro e0; rw [e0] at hk; simp [tokP] at hk
        have := g3 hne
        obtain ⟨L, hL, hx⟩ := ih _ _ (by omega) (by omega) he
        refine ⟨_ :: L, ?_, Lx.tok (t := (tokP (s.drop (i + skipM false (s.drop i)))).2.1) (n := (tokP (s.drop (i + skipM false (s.drop i)))).2.2) (by rw [hdd]; exact hne) ?_ ?_⟩
        · rw [hL]; simp
        · rw [hdd]
          have h1' : (tokP (s.drop (i + skipM false (s.drop i)))).1 = 0 := by simpa using h1
          rw [← h1']
        · rw [hdd, List.drop_drop]; exact hx

theorem lx_toksP (s : List UInt8) : ∀ (f i : Nat) (acc L : List (Tk × Nat)), s.length + 1 - i ≤ f → i ≤ s.length → Lx (s.drop i) i L → toksP s f i acc = (acc ++ L ++ [((⟨0, [], 0⟩ : Tk), s.length)], 0, 0) := by
  intro f
  induction f with
  | zero => intro i acc L hf hi; omega
  | succ f ih =>
    intro i acc L hf hi hx
    have hdd : (s.drop i).drop (skipM false (s.drop i)) = s.drop (i + skipM false (s.drop i)) := by rw [List.drop_drop]
    have htl := tokP_len (s.drop (i + skipM false (s.drop i)))
    rw [List.length_drop] at htl
    simp only [toksP]
    generalize hl : s.drop i = l at *
    cases hx with
    | done h1 =>
      have : s.drop (i + skipM false l) = [] := by rw [List.drop_eq_nil_iff, h1, ← hl, List.length_drop]; omega
      have h2 : i + skipM false l = s.length := by rw [h1, ← hl, List.length_drop]; omega
      rw [this, h2]; simp [tokP]
    | @tok _ _ t n L h1 h2 h3 =>
      rw [hdd] at h1 h2 h3
      rw [h2] at htl ⊢
      obtain ⟨g1, g2, g3⟩ := htl rfl
      have hk : t.k ≠ 0 := fun e => h1 (g2 e)
      have := g3 h1
      simp only at g1 this
      rw [if_neg (by simp)]
      simp only
      rw [if_neg hk]
      have hlt : i + skipM false l < s.length := by
        rcases Nat.lt_or_ge (i + skipM false l) s.length with h' | h'
        · exact h'
        · exact absurd (List.drop_eq_nil_of_le h') h1
      rw [ih (i + skipM false l + n) _ L (by omega) (by omega) (by rw [← List.drop_drop]; exact h3)]
      simp

theorem Toks_lx {s : List UInt8} (h : (Toks s).2.2 = 0) : ∃ L, Toks s = (L ++ [((⟨0, [], 0⟩ : Tk), s.length)], 0, 0) ∧ Lx s 0 L := by
  have hp := (Toks_rise s).2 h
  unfold Toks at h ⊢
  unfold Toks at hp
  split at h
  · simp at h
  · rename_i h1
    rw [if_neg h1] at hp ⊢
    obtain ⟨L, hL, hx⟩ := toksP_lx s _ 0 [] (by omega) (Nat.zero_le _) h
    refine ⟨L, ?_, by simpa using hx⟩
    generalize toksP s (s.length + 1) 0 [] = p at *
    obtain ⟨p1, p2, p3⟩ := p
    simp only at h hL hp
    obtain ⟨hp1, _⟩ := hp
    rw [h, hL, hp1]; simp
theorem lx_Toks {s : List UInt8} {L : List (Tk × Nat)} (hl : s.length ≤ 2000) (h : Lx s 0 L) : Toks s = (L ++ [((⟨0, [], 0⟩ : Tk), s.length)], 0, 0) := by
  rw [Toks, if_neg (by omega), lx_toksP s _ 0 [] L (by omega) (Nat.zero_le _) (by simpa using h)]
  simp

/-! ### A line's end parts -/
theorem takeWhile_line {p : UInt8 → Bool} (hp : p 10 = false) : ∀ (l r : List UInt8), (l ++ 10 :: r).takeWhile p = l.takeWhile p
  | [], r => by rw [List.nil_append, List.takeWhile_cons, if_neg (by simp [hp])]; rfl
  | b :: l, r => by
    rw [List.cons_append, List.takeWhile_cons, List.takeWhile_cons, takeWhile_line hp l r]

theorem hexStep_line : ∀ (k n : Nat) (w r : List UInt8), hexStep k n (w ++ 10 :: r) = hexStep k n (w ++ [10]) ∧ ((hexStep k n (w ++ [10])).1 = 0 → k ≤ w.length)
  | 0, n, w, r => ⟨by simp [hexStep], fun _ => Nat.zero_le _⟩
  | k + 1, n, [], r => by
    have : hexV 10 = none := rfl
    simp [hexStep, this]
  | k + 1, n, a :: w, r => by
    rw [List.cons_append, List.cons_append, hexStep, hexStep]
    cases hexV a with
    | none => exact ⟨rfl, fun e => by simp at e⟩
    | some y =>
      obtain ⟨h1, h2⟩ := hexStep_line k (16 * n + y) w r
      exact ⟨h1, fun e => by have := h2 e; simp; omega⟩
theorem escP_line (w r : List UInt8) : escP (w ++ 10 :: r) = escP (w ++ [10]) ∧ ((escP (w ++ [10])).1 = 0 → (escP (w ++ [10])).2.2 ≤ w.length) := by
  cases w with
  | nil => exact ⟨rfl, fun e => by simp [escP] at e⟩
  | cons c w =>
    simp only [List.cons_append, escP]
    split
    · simp
    · split
      · simp
      · split
        · simp
        · split
          · simp
          · obtain ⟨h1, h2⟩ := hexStep_line 2 0 w r
            refine ⟨h1, fun e => ?_⟩
            have := h2 e
            have h3 := (hexStep_ok 2 0 _ e).2
            rw [h3]; simp; omega

theorem unqK_line : ∀ (w : List UInt8) (k : Nat) (acc : List UInt8) (a : Nat) (r : List UInt8), k ≤ w.length → unqK (w ++ 10 :: r) k acc a = unqK (w ++ [10]) k acc a ∧ ((unqK (w ++ [10]) k acc a).2.2 = 0 → (unqK (w ++ [10]) k acc a).2.1 ≤ a + w.length)
  | [], 0, acc, a, r, hk => by simp [unqK]
  | [], k + 1, acc, a, r, hk => by simp at hk
  | c :: w, k + 1, acc, a, r, hk => by
    rw [List.cons_append, List.cons_append, unqK, unqK]
    obtain ⟨h1, h2⟩ := unqK_line w k acc a r (by simpa using hk)
    exact ⟨h1, fun e => by have := h2 e; simp; omega⟩
  | c :: w, 0, acc, a, r, hk => by
    obtain ⟨e1, e2⟩ := escP_line w r
    simp only [List.cons_append, unqK, e1]
    split
    · simp
    · split
      · split
        · simp
        · first | (simp; done) | (simp; omega)
      · split
        · split
          · rename_i h3; exact ⟨rfl, fun e => absurd e h3⟩
          · rename_i h3
            have h4 := e2 (by simpa using h3)
            obtain ⟨h1, h2⟩ := unqK_line w (escP (w ++ [10])).2.2 (acc ++ [(escP (w ++ [10])).2.1]) (a + 1 + (escP (w ++ [10])).2.2) r h4
            refine ⟨h1, fun e => ?_⟩
            have hb := h2 e
            rw [unqK_drop] at hb e
            have e5 : (w ++ [10]).drop (escP (w ++ [10])).2.2 = w.drop (escP (w ++ [10])).2.2 ++ [10] := by rw [List.drop_append_of_le_length h4]
            rw [e5] at hb e
            have := (unqK_line (w.drop (escP (w ++ [10])).2.2) 0 (acc ++ [(escP (w ++ [10])).2.1]) (a + 1 + (escP (w ++ [10])).2.2) r (Nat.zero_le _)).2 e
            rw [unqK_drop, e5]
            simp at this ⊢; omega
        · split
          · simp
          · obtain ⟨h1, h2⟩ := unqK_line w 0 (acc ++ [c]) (a + 1) r (Nat.zero_le _)
            exact ⟨h1, fun e => by have := h2 e; simp; omega⟩
termination_by w => w.length

theorem tokP_line (c : UInt8) (w r : List UInt8) : tokP (c :: (w ++ 10 :: r)) = tokP (c :: (w ++ [10])) ∧ ((tokP (c :: (w ++ [10]))).1 = 0 → c ≠ 10 → (tokP (c :: (w ++ [10]))).2.2 ≤ w.length + 1) := by
  have t1 : ∀ r, (c :: (w ++ 10 :: r)).takeWhile digitB = (c :: w).takeWhile digitB := fun r => takeWhile_line (p := digitB) rfl (c :: w) r
  have t2 : ∀ r, (c :: (w ++ 10 :: r)).takeWhile innerB = (c :: w).takeWhile innerB := fun r => takeWhile_line (p := innerB) rfl (c :: w) r
  have t3 : unq (c :: (w ++ 10 :: r)) = unq (c :: (w ++ [10])) := by
    simp only [unq]
    rw [(unqK_line w 0 [] 1 r (Nat.zero_le _)).1]
  have t4 : (c :: (w ++ 10 :: r)).take 2 = (c :: (w ++ [10])).take 2 := by cases w <;> rfl
  have t5 : (c :: (w ++ 10 :: r)).take 1 = (c :: (w ++ [10])).take 1 := rfl
  have l1 := takeWhile_len digitB (c :: w)
  have l2 := takeWhile_len innerB (c :: w)
  refine ⟨by simp only [tokP, t1, t2, t3, t4, t5], fun he hc => ?_⟩
  simp only [tokP, t1, t2] at he ⊢
  split
  · rename_i h1
    rw [if_pos h1] at he
    split
    · simpa using l1
    · simp
  · rename_i h1
    rw [if_neg h1] at he
    split
    · rename_i h2
      rw [if_pos h2] at he
      split
      · rename_i h3
        have : unq (c :: (w ++ [10])) = unqK (w ++ [10]) 0 [] 1 := by rw [unq, if_neg (by simp [h2])]
        rw [this] at h3 ⊢
        have := (unqK_line w 0 [] 1 r (Nat.zero_le _)).2 h3
        simp only; omega
      · simp
    · split
      · split
        · simp
        · simpa using l2
      · split
        · split
          · rename_i h5
            cases w with
            | nil => simp at h5
            | cons b w => simp
          · simp
        · simp

theorem skipM_line2 : ∀ (u r : List UInt8) (b : Bool), (skipM b (u ++ [10]) ≤ u.length → skipM b (u ++ 10 :: r) = skipM b (u ++ [10])) ∧ (skipM b (u ++ [10]) = u.length + 1 → skipM b (u ++ 10 :: r) = u.length + 1 + skipM false r)
  | [], r, b => by cases b <;> simp [skipM]
  | c :: u, r, true => by
    have i1 := skipM_line2 u r true
    have i2 := skipM_line2 u r false
    simp only [List.cons_append, skipM, List.length_cons]
    split
    · exact ⟨fun h => by rw [i2.1 (by omega)], fun h => by rw [i2.2 (by omega)]; omega⟩
    · exact ⟨fun h => by rw [i1.1 (by omega)], fun h => by rw [i1.2 (by omega)]; omega⟩
  | c :: u, r, false => by
    have i1 := skipM_line2 u r true
    have i2 := skipM_line2 u r false
    simp only [List.cons_append, skipM, List.length_cons]
    split
    · exact ⟨fun h => by rw [i2.1 (by omega)], fun h => by rw [i2.2 (by omega)]; omega⟩
    · split
      · exact ⟨fun h => by rw [i1.1 (by omega)], fun h => by rw [i1.2 (by omega)]; omega⟩
      · exact ⟨fun _ => rfl, fun h => by omega⟩

theorem Lx.ahead {g t : List UInt8} (hg : ∀ t, skipM false (g ++ t) = g.length + skipM false t) {i : Nat} {L : List (Tk × Nat)} (h : Lx t (i + g.length) L) : Lx (g ++ t) i L := by
  have hd : (g ++ t).drop (skipM false (g ++ t)) = t.drop (skipM false t) := by rw [hg, ← List.drop_drop, List.drop_left]
  cases h with
  | done h1 => exact .done (by rw [hg, h1, List.length_append])
  | tok h1 h2 h3 =>
    have := Lx.tok (l := g ++ t) (i := i) (by rw [hd]; exact h1) (by rw [hd]; exact h2) (by rw [hd, hg, ← Nat.add_assoc]; exact h3)
    rw [hg, ← Nat.add_assoc] at this
    exact this

theorem Lx.app {l : List UInt8} {i : Nat} {L : List (Tk × Nat)} (h : Lx l i L) : ∀ (u r : List UInt8) (M : List (Tk × Nat)), l = u ++ [10] → Lx r (i + u.length + 1) M → Lx (u ++ 10 :: r) i (L ++ M) := by
  induction h with
  | @done l i h1 =>
    rintro u r M rfl hM
    have h2 := (skipM_line2 u r false).2 (by rw [h1]; simp)
    have hd : (u ++ 10 :: r).drop (skipM false (u ++ 10 :: r)) = r.drop (skipM false r) := by
      rw [h2, ← List.drop_drop, show u.length + 1 = (u ++ [10]).length by simp, show u ++ 10 :: r = (u ++ [10]) ++ r by simp, List.drop_left]
    rw [List.nil_append]
    cases hM with
    | done h3 => exact .done (by rw [h2, h3]; simp; omega)
    | tok h3 h4 h5 =>
      have := Lx.tok (l := u ++ 10 :: r) (i := i) (by rw [hd]; exact h3) (by rw [hd]; exact h4) (by rw [hd, h2, show i + (u.length + 1 + skipM false r) = i + u.length + 1 + skipM false r by omega]; exact h5)
      rw [h2, show i + (u.length + 1 + skipM false r) = i + u.length + 1 + skipM false r by omega] at this
      exact this
  | @tok l i t n L h1 h2 h3 ih =>
    rintro u r M rfl hM
    have hle : skipM false (u ++ [10]) ≤ u.length := by
      rcases Nat.lt_or_ge u.length (skipM false (u ++ [10])) with h' | h'
      · exact absurd (List.drop_eq_nil_of_le (by simp; omega)) h1
      · exact h'
    have hs := (skipM_line2 u r false).1 hle
    generalize hk : skipM false (u ++ [10]) = k at *
    have d1 : (u ++ [10]).drop k = u.drop k ++ [10] := by rw [List.drop_append_of_le_length hle]
    have d2 : (u ++ 10 :: r).drop k = u.drop k ++ 10 :: r := by rw [List.drop_append_of_le_length hle]
    rw [d1] at h1 h2 h3 ih
    cases hu : u.drop k with
    | nil =>
      rw [hu] at h2
      have : (tokP ([] ++ [10])).1 = 10 := rfl
      rw [h2] at this; simp at this
    | cons c w =>
      rw [hu] at h1 h2 h3 ih d2
      have hw : u.length - k = w.length + 1 := by have := congrArg List.length hu; simpa using this
      obtain ⟨q1, q2⟩ := tokP_line c w r
      have hc10 : c ≠ 10 := by
        rintro rfl
        have : (tokP (10 :: (w ++ [10]))).1 = 10 := by
          have a1 : digitB 10 = false := rfl
          have a2 : (smallB 10 || largeB 10) = false := rfl
          have a3 : signB 10 = false := rfl
          rw [tokP, if_neg (by simp [a1]), if_neg (by decide), if_neg (by simp [a2]), if_neg (by simp [a3])]
        have h2' : tokP (10 :: (w ++ [10])) = (0, t, n) := h2
        rw [h2'] at this; simp at this
      have h2' : tokP (c :: (w ++ [10])) = (0, t, n) := h2
      rw [h2'] at q1 q2
      have hn : n ≤ w.length + 1 := q2 rfl hc10
      have e1 : (c :: w ++ [10]).drop n = (c :: w).drop n ++ [10] := by rw [List.drop_append_of_le_length (by simpa using hn)]
      have e2 : (c :: w ++ 10 :: r).drop n = (c :: w).drop n ++ 10 :: r := by rw [List.drop_append_of_le_length (by simpa using hn)]
      have := ih ((c :: w).drop n) r M e1 (by
        rw [List.length_drop, List.length_cons, show i + k + n + (w.length + 1 - n) + 1 = i + u.length + 1 by omega]
        exact hM)
      have fin := Lx.tok (l := u ++ 10 :: r) (i := i) (t := t) (n := n) (L := L ++ M) (by rw [hs, d2]; simp) (by rw [hs, d2]; exact q1) (by rw [hs, d2, e2]; exact this)
      rw [hs] at fin
      exact fin

def gaps : List (List UInt8) := [[32], [10], [9, 10, 32], [10, 35, 32, 108, 101, 116, 10], [32, 35, 10]]
theorem gap_skip (m : Nat) (g : List UInt8) (h : gaps[m]? = some g) (t : List UInt8) : skipM false (g ++ t) = g.length + skipM false t := by
  match m, h with
  | 0, h => simp [gaps] at h; subst h; simp [skipM]
  | 1, h => simp [gaps] at h; subst h; simp [skipM]
  | 2, h => simp [gaps] at h; subst h; simp [skipM]; omega
  | 3, h => simp [gaps] at h; subst h; simp [skipM]; omega
  | 4, h => simp [gaps] at h; subst h; simp [skipM]; omega
  | m + 5, h => simp [gaps] at h

/-- The law, plainly. -/
theorem Toks_joined (s t g : List UInt8) (m : Nat) (hg : gaps[m]? = some g) (hs : s.length ≤ 300) (ht : t.length ≤ 300) (h1 : (Toks (s ++ [10])).2.2 = 0) (h2 : (Toks t).2.2 = 0) :
    ∃ L M, Toks (s ++ [10]) = (L ++ [((⟨0, [], 0⟩ : Tk), s.length + 1)], 0, 0) ∧ Toks t = (M ++ [((⟨0, [], 0⟩ : Tk), t.length)], 0, 0) ∧
      Toks (s ++ [10] ++ g ++ t) = (L ++ (M ++ [((⟨0, [], 0⟩ : Tk), t.length)]).map (fun p => (p.1, p.2 + (s.length + 1 + g.length))), 0, 0) := by
  obtain ⟨L, hL, xL⟩ := Toks_lx h1
  obtain ⟨M, hM, xM⟩ := Toks_lx h2
  have hgl : g.length ≤ 7 := by
    match m, hg with
    | 0, h => simp [gaps] at h; subst h; simp
    | 1, h => simp [gaps] at h; subst h; simp
    | 2, h => simp [gaps] at h; subst h; simp
    | 3, h => simp [gaps] at h; subst h; simp
    | 4, h => simp [gaps] at h; subst h; simp
    | m + 5, h => simp [gaps] at h
  refine ⟨L, M, by rw [hL]; simp, hM, ?_⟩
  have x1 := xM.shift (s.length + 1 + g.length)
  rw [Nat.zero_add] at x1
  have x2 : Lx (g ++ t) (0 + s.length + 1) (M.map fun p => (p.1, p.2 + (s.length + 1 + g.length))) := Lx.ahead (gap_skip m g hg) (by rw [show 0 + s.length + 1 + g.length = s.length + 1 + g.length by omega]; exact x1)
  have x3 := xL.app s (g ++ t) _ rfl x2
  have := lx_Toks (s := s ++ 10 :: (g ++ t)) (by simp; omega) x3
  rw [show s ++ [10] ++ g ++ t = s ++ 10 :: (g ++ t) by simp, this]
  simp
  omega

end Go.Proofs.YtggdpckdlcngpaaDoor

set_option linter.unusedVariables false
set_option linter.unusedSimpArgs false
namespace Go.Proofs.YtggdpckdlcngpaaDoor
open Abs Go.RowKit

set_option maxHeartbeats 8000000 in
theorem joinedLaw (s t : List UInt8) (n : Int) (hn : -9223372036854775808 ≤ n ∧ n ≤ 9223372036854775807) : Does X 5 [.str s, .str t, .int .i64 n] s0 fun v _ => v = .bool true := by
  refine call_aw b5 rfl rfl rfl ?_; delta b5
  obtain ⟨N, hN, hNn⟩ := turned n hn
  have modN : ((N : Int)).tmod 5 = ((N % 5 : Nat) : Int) := by rw [show (5 : Int) = ((5 : Nat) : Int) from rfl, ← Int.ofNat_tmod]
  have hm5 : N % 5 < 5 := by omega
  generalize N % 5 = m at modN hm5
  obtain ⟨g, hg⟩ : ∃ g, gaps[m]? = some g := ⟨_, List.getElem?_eq_getElem (show m < gaps.length from hm5)⟩
  have hgl : g.length ≤ 7 := by
    match m, hg with
    | 0, h => simp [gaps] at h; subst h; simp
    | 1, h => simp [gaps] at h; subst h; simp
    | 2, h => simp [gaps] at h; subst h; simp
    | 3, h => simp [gaps] at h; subst h; simp
    | 4, h => simp [gaps] at h; subst h; simp
    | m + 5, h => simp [gaps] at h
  simp -dsimp -implicitDefEqProofs only [go_sem, Nat.reduceAdd, Nat.reduceEqDiff, reduceIte, reduceCtorEq, Nat.reduceLeDiff, Nat.reduceLT, Nat.reduceSub, Int.reduceEq, Int.reduceLT]
  refine DoesK_of (few_call _ _) ?_
  rintro v s' ⟨rfl, rfl⟩
  simp -dsimp -implicitDefEqProofs only [go_sem, Nat.reduceAdd, Nat.reduceEqDiff, reduceIte, reduceCtorEq, Nat.reduceLeDiff, Nat.reduceLT, Nat.reduceSub, Int.reduceEq, Int.reduceLT]
  refine DoesK_of (few_call _ _) ?_
  rintro v s' ⟨rfl, rfl⟩
  generalize hS : s.take 300 = S
  generalize hT : t.take 300 = T
  have hS300 : S.length ≤ 300 := by rw [← hS]; simp; omega
  have hT300 : T.length ≤ 300 := by rw [← hT]; simp; omega
  have hgs : (gaps.map AV.str)[m]? = some (.str g) := by rw [List.getElem?_map, hg]; rfl
  have hgp : ∀ e : AEnv, partsV (ev e) 1 [(.val (.str [32])), (.val (.str [10])), (.val (.str [9, 10, 32])), (.val (.str [10, 35, 32, 108, 101, 116, 10])), (.val (.str [32, 35, 10]))] = some (gaps.map AV.str) := fun e => by kernel_rfl
  generalize gaps.map AV.str = GS at hgs hgp
  have hc1 : S.length + 1 ≤ 9223372036854775807 := by omega
  simp -dsimp -implicitDefEqProofs only [go_sem, Nat.reduceAdd, Nat.reduceEqDiff, reduceIte, reduceCtorEq, Nat.reduceLeDiff, Nat.reduceLT, Nat.reduceSub, Int.reduceEq, Int.reduceLT]
  cases h0 : decide (n < 0)
  all_goals
    rw [h0] at hNn
    simp only [Bool.false_eq_true, if_false, if_true] at hNn
    have HN := hNn
    (try subst hNn)
    simp -dsimp -implicitDefEqProofs only [go_sem, Nat.reduceAdd, Nat.reduceEqDiff, reduceIte, reduceCtorEq, Nat.reduceLeDiff, Nat.reduceLT, Nat.reduceSub, Int.reduceEq, Int.reduceLT, h0, CondV_true, CondV_false, HN, modN, hgp, hc1]
    have ra := Toks_rise (S ++ [10])
    have la := Toks_len (S ++ [10])
    refine DoesK_of (tokens_call _ _ _ _) ?_
    generalize hTA : Toks (S ++ [10]) = TA at ra la
    obtain ⟨al, aa, ae⟩ := TA
    rintro v s' ⟨o1, rfl, h1, c1, rfl, f1⟩
    simp -dsimp -implicitDefEqProofs only [go_sem, Nat.reduceAdd, Nat.reduceEqDiff, reduceIte, reduceCtorEq, Nat.reduceLeDiff, Nat.reduceLT, Nat.reduceSub, Int.reduceEq, Int.reduceLT]
    have rb := Toks_rise T
    have lb := Toks_len T
    refine DoesK_of (tokens_call _ _ _ _) ?_
    generalize hTB : Toks T = TB at rb lb
    obtain ⟨bl, ba, be⟩ := TB
    rintro v s' ⟨o2, rfl, h2, c2, rfl, f2⟩
    simp only at ra rb la lb
    have za : ae = 0 → decide (((al.map tkV).length : Int) = 0) = false ∧ decide (((al.map tkV).length : Int) > 0) = true := by
      intro e; obtain ⟨_, l, rfl, _⟩ := ra.2 e; simp; omega
    have zb : be = 0 → decide (((bl.map tkV).length : Int) = 0) = false ∧ decide (((bl.map tkV).length : Int) > 0) = true := by
      intro e; obtain ⟨_, l, rfl, _⟩ := rb.2 e; simp; omega
    by_cases hae : ae = 0
    · have da : decide (¬ ae = 0) = false := by simpa using hae
      by_cases hbe : be = 0
      · have db : decide (¬ be = 0) = false := by simpa using hbe
        subst hae; subst hbe
        obtain ⟨L, M, j1, j2, j3⟩ := Toks_joined S T g m hg hS300 hT300 (by rw [hTA]) (by rw [hTB])
        rw [hTA] at j1
        rw [hTB] at j2
        injection j1 with j1 _
        injection j2 with j2 _
        have hal : (al.map tkV).length = L.length + 1 := by rw [j1]; simp
        have hbl : (bl.map tkV).length = M.length + 1 := by rw [j2]; simp
        have hLl : L.length ≤ 301 := by rw [j1] at la; simp at la; omega
        have hMl : M.length ≤ 300 := by rw [j2] at lb; simp at lb; omega
        have q1 : S.length + 1 ≤ 9223372036854775807 := by omega
        have q2 : S.length + 1 + g.length ≤ 9223372036854775807 := by omega
        have q3 : S.length + 1 + g.length + T.length ≤ 9223372036854775807 := by omega
        have eqA : ∀ (e : AEnv), True := fun _ => trivial
        simp -dsimp -implicitDefEqProofs only [go_sem, Nat.reduceAdd, Nat.reduceEqDiff, reduceIte, reduceCtorEq, Nat.reduceLeDiff, Nat.reduceLT, Nat.reduceSub, Int.reduceEq, Int.reduceLT, da, db, za rfl, zb rfl, CondV_true, CondV_false, hgs, elemA, List.length_append, q1, q2, q3]
        refine DoesK_of (tokens_is j3 _ _ _) ?_
        rintro v s' ⟨o3, rfl, h3, c3, rfl, f3⟩
        generalize hMe : M ++ [((⟨0, [], 0⟩ : Tk), T.length)] = Me at *
        have hMel : Me.length = M.length + 1 := by rw [← hMe]; simp
        generalize hC : L ++ Me.map (fun p => (p.1, p.2 + (S.length + 1 + g.length))) = C at *
        have hCl : (C.map tkV).length = L.length + M.length + 1 := by rw [← hC]; simp [hMel]; omega
        have w1 : IntKind.wrap .i64 (((L.length + 1 : Nat) : Int) + ((M.length + 1 : Nat) : Int)) = ((L.length + M.length + 2 : Nat) : Int) := by rw [wrap_i64 (by omega) (by omega)]; omega
        have w2 : IntKind.wrap .i64 (((L.length + M.length + 2 : Nat) : Int) - 1) = ((L.length + M.length + 1 : Nat) : Int) := by rw [wrap_i64 (by omega) (by omega)]; omega
        simp -dsimp -implicitDefEqProofs only [go_sem, Nat.reduceAdd, Nat.reduceEqDiff, reduceIte, reduceCtorEq, Nat.reduceLeDiff, Nat.reduceLT, Nat.reduceSub, Int.reduceEq, Int.reduceLT, CondV_true, hCl, hal, hbl, w1, w2]
        let I : Nat → AEnv → ASt → Prop := fun q e st => ∃ (j : Nat) (H : Hp) (K : Nat), q = L.length + M.length + 1 - j ∧ j ≤ L.length + M.length + 1 ∧ e.get 0 = .str S ∧ e.get 7 = .slice .full GS ∧ e.get 8 = .int .i64 (m : Int) ∧ e.get 9 = .slice o1 (al.map tkV) ∧ e.get 12 = .slice o2 (bl.map tkV) ∧ e.get 15 = .slice o3 (C.map tkV) ∧ e.get 18 = .int .i64 (j : Int) ∧ st = ⟨H, K, []⟩
        refine LoopK_rule I (L.length + M.length + 1) ⟨0, _, _, rfl, Nat.zero_le _, rfl, rfl, rfl, rfl, rfl, rfl, rfl, rfl⟩ ?_
        rintro q e st ⟨j, H, K, rfl, hj, g0, g7, g8, g9, g12, g15, g18, rfl⟩
        simp -dsimp -implicitDefEqProofs only [go_sem, Nat.reduceAdd, Nat.reduceEqDiff, reduceIte, reduceCtorEq, Nat.reduceLeDiff, Nat.reduceLT, Nat.reduceSub, Int.reduceEq, Int.reduceLT, g15, g18, hCl]
        refine CondV_split (fun hc => ?_) fun hc => ?_
        · have hj' : j < L.length + M.length + 1 := by simp at hc; omega
          have again : ∀ (e' : AEnv) (H' : Hp) (K' : Nat), e'.get 0 = .str S → e'.get 7 = .slice .full GS → e'.get 8 = .int .i64 (m : Int) → e'.get 9 = .slice o1 (al.map tkV) → e'.get 12 = .slice o2 (bl.map tkV) → e'.get 15 = .slice o3 (C.map tkV) → e'.get 18 = .int .i64 (IntKind.wrap .i64 ((j : Int) + 1)) → Again I .mk (L.length + M.length + 1 - j) e' ⟨H', K', []⟩ := by
            intro e' H' K' a0 a7 a8 a9 a12 a15 a18
            refine Again.of (L.length + M.length + 1 - (j + 1)) (by omega) ⟨j + 1, H', K', rfl, hj', a0, a7, a8, a9, a12, a15, ?_, rfl⟩
            rw [a18, wrap_i64 (by omega) (by omega)]; rfl
          have w3 : IntKind.wrap .i64 (((L.length + 1 : Nat) : Int) - 1) = (L.length : Int) := by rw [wrap_i64 (by omega) (by omega)]; omega
          by_cases hjL : j < L.length
          · have d1 : decide ((j : Int) < (L.length : Int)) = true := by simp; omega
            have e1 : C[j]? = L[j]? := by rw [← hC, List.getElem?_append_left hjL]
            have e2 : al[j]? = L[j]? := by rw [j1, List.getElem?_append_left hjL]
            have e3 := List.getElem?_eq_getElem hjL
            generalize L[j] = p at e3
            obtain ⟨⟨k, w, x⟩, a⟩ := p
            rw [e3] at e1 e2
            simp -dsimp -implicitDefEqProofs only [go_sem, Nat.reduceAdd, Nat.reduceEqDiff, reduceIte, reduceCtorEq, Nat.reduceLeDiff, Nat.reduceLT, Nat.reduceSub, Int.reduceEq, Int.reduceLT, preH, OpK_alloc, g9, g12, g15, g18, e1, e2, hal, w3, d1, elemA, tkV, tokC, ldCells, CondV_true, CondV_false, eqKey, eqTs, eqT]
            exact again _ _ _ g0 g7 g8 g9 g12 g15 rfl
          · have d1 : decide ((j : Int) < (L.length : Int)) = false := by simp; omega
            have hjM : j - L.length < Me.length := by omega
            have e3 := List.getElem?_eq_getElem hjM
            generalize Me[j - L.length] = p at e3
            obtain ⟨⟨k, w, x⟩, a⟩ := p
            have e1 : C[j]? = some (⟨k, w, x⟩, a + (S.length + 1 + g.length)) := by rw [← hC, List.getElem?_append_right (by omega), List.getElem?_map, e3]; rfl
            have e2 : bl[j - L.length]? = some (⟨k, w, x⟩, a) := by rw [j2]; exact e3
            have haT : a ≤ T.length := by
              have hin := List.mem_of_getElem? e3
              rw [← hMe] at hin
              rcases List.mem_append.1 hin with h' | h'
              · obtain ⟨i', hi'⟩ := List.mem_iff_getElem?.1 h'
                obtain ⟨_, l, hl, hr⟩ := rb.2 rfl
                have : M = l := by
                  rw [j2] at hl
                  rw [← hMe] at hl
                  exact List.append_inj_left' hl rfl
                rw [this] at hi'
                exact Nat.le_of_lt (hr i' _ hi').2.1
              · simp at h'; omega
            have v1 : IntKind.wrap .i64 (((a + (S.length + 1 + g.length) : Nat) : Int) - (S.length : Int)) = ((a + 1 + g.length : Nat) : Int) := by rw [wrap_i64 (by omega) (by omega)]; omega
            have v2 : IntKind.wrap .i64 (((a + 1 + g.length : Nat) : Int) - 1) = ((a + g.length : Nat) : Int) := by rw [wrap_i64 (by omega) (by omega)]; omega
            have v3 : IntKind.wrap .i64 (((a + g.length : Nat) : Int) - (g.length : Int)) = (a : Int) := by rw [wrap_i64 (by omega) (by omega)]; omega
            have v4 : IntKind.wrap .i64 ((j : Int) - ((L.length + 1 : Nat) : Int)) = (j : Int) - ((L.length + 1 : Nat) : Int) := wrap_i64 (by omega) (by omega)
            have v5 : IntKind.wrap .i64 ((j : Int) - ((L.length + 1 : Nat) : Int) + 1) = ((j - L.length : Nat) : Int) := by rw [wrap_i64 (by omega) (by omega)]; omega
            simp -dsimp -implicitDefEqProofs only [go_sem, Nat.reduceAdd, Nat.reduceEqDiff, reduceIte, reduceCtorEq, Nat.reduceLeDiff, Nat.reduceLT, Nat.reduceSub, Int.reduceEq, Int.reduceLT, preH, OpK_alloc, g0, g7, g8, g9, g12, g15, g18, e1, e2, hal, w3, d1, elemA, tkV, tokC, ldCells, hgs, v1, v2, v3, v4, v5, CondV_true, CondV_false, eqKey, eqTs, eqT]
            exact again _ _ _ g0 g7 g8 g9 g12 g15 rfl
        · simp -dsimp -implicitDefEqProofs only [go_sem, Nat.reduceAdd, Nat.reduceEqDiff, reduceIte, reduceCtorEq, Nat.reduceLeDiff, Nat.reduceLT, Nat.reduceSub, Int.reduceEq, Int.reduceLT]
          refine DoesK_of (lives_call _ _ _) ?_
          rintro v s' ⟨rfl, h', c', rfl, f⟩
          simp -dsimp -implicitDefEqProofs only [go_sem, Nat.reduceAdd, Nat.reduceEqDiff, reduceIte, reduceCtorEq, Nat.reduceLeDiff, Nat.reduceLT, Nat.reduceSub, Int.reduceEq, Int.reduceLT]
      · have db : decide (¬ be = 0) = true := by simpa using hbe
        simp -dsimp -implicitDefEqProofs only [go_sem, Nat.reduceAdd, Nat.reduceEqDiff, reduceIte, reduceCtorEq, Nat.reduceLeDiff, Nat.reduceLT, Nat.reduceSub, Int.reduceEq, Int.reduceLT, da, db, za hae, CondV_true, CondV_false]
        refine DoesK_of (lives_call _ _ _) ?_
        rintro v s' ⟨rfl, h', c', rfl, f⟩
        simp -dsimp -implicitDefEqProofs only [go_sem, Nat.reduceAdd, Nat.reduceEqDiff, reduceIte, reduceCtorEq, Nat.reduceLeDiff, Nat.reduceLT, Nat.reduceSub, Int.reduceEq, Int.reduceLT]
    · have da : decide (¬ ae = 0) = true := by simpa using hae
      by_cases hbe : be = 0
      · have db : decide (¬ be = 0) = false := by simpa using hbe
        simp -dsimp -implicitDefEqProofs only [go_sem, Nat.reduceAdd, Nat.reduceEqDiff, reduceIte, reduceCtorEq, Nat.reduceLeDiff, Nat.reduceLT, Nat.reduceSub, Int.reduceEq, Int.reduceLT, da, db, zb hbe, CondV_true, CondV_false]
        refine DoesK_of (lives_call _ _ _) ?_
        rintro v s' ⟨rfl, h', c', rfl, f⟩
        simp -dsimp -implicitDefEqProofs only [go_sem, Nat.reduceAdd, Nat.reduceEqDiff, reduceIte, reduceCtorEq, Nat.reduceLeDiff, Nat.reduceLT, Nat.reduceSub, Int.reduceEq, Int.reduceLT]
      · have db : decide (¬ be = 0) = true := by simpa using hbe
        simp -dsimp -implicitDefEqProofs only [go_sem, Nat.reduceAdd, Nat.reduceEqDiff, reduceIte, reduceCtorEq, Nat.reduceLeDiff, Nat.reduceLT, Nat.reduceSub, Int.reduceEq, Int.reduceLT, da, db, CondV_true, CondV_false]
        refine DoesK_of (lives_call _ _ _) ?_
        rintro v s' ⟨rfl, h', c', rfl, f⟩
        simp -dsimp -implicitDefEqProofs only [go_sem, Nat.reduceAdd, Nat.reduceEqDiff, reduceIte, reduceCtorEq, Nat.reduceLeDiff, Nat.reduceLT, Nat.reduceSub, Int.reduceEq, Int.reduceLT]

end Go.Proofs.YtggdpckdlcngpaaDoor
