/- The next token. -/
import Derived.Test.YtggdpckdlcngpaaDoorL14
set_option linter.unusedVariables false
set_option linter.unusedSimpArgs false
namespace Go.Proofs.YtggdpckdlcngpaaDoor
open Abs Go.RowKit

/-- How a token is read by a function of the reader. -/
def ReadsP (s : List UInt8) (r t i c a : Nat) (h : Hp) (d : List (Nat × List AV)) (p : Int × Tk × Nat) : AV → ASt → Prop := fun v s' =>
  v = .int .i64 p.1 ∧ ∃ h' c' k w n, s' = ⟨h', c', d⟩ ∧ Fr h c h' c' [r, t] ∧ h' t = some (tokO k w n a) ∧ (p.1 = 0 → k = p.2.1.k ∧ w = p.2.1.t ∧ n = p.2.1.n ∧ h' r = some (rdr s (i + p.2.2)))

section
variable {s : List UInt8} {r t a c : Nat} {h : Hp} {d : List (Nat × List AV)} {x : UInt8} {l : List UInt8}

theorem drop_lt (hx : s.drop a = x :: l) : a < s.length := by
  rcases Nat.lt_or_ge a s.length with h' | h'
  · exact h'
  · rw [List.drop_eq_nil_of_le h'] at hx; cases hx

theorem reads_number (hs : s.length < 4294967281) (hx : s.drop a = x :: l) (hd : digitB x = true) (hrc : r < c) (htc : t < c) (hrt : r ≠ t) (hr : h r = some (rdr s a)) (ht : h t = some (tokO 0 [] 0 a)) :
    Does X 25 [.ptr r 0, .ptr t 0] ⟨h, c, d⟩ (ReadsP s r t a c a h d (tokP (s.drop a))) := by
  have hP : tokP (s.drop a) = if decV 0 ((x :: l).takeWhile digitB) ≤ 4611686018427387903 then (0, ⟨1, [], (decV 0 ((x :: l).takeWhile digitB) : Nat)⟩, ((x :: l).takeWhile digitB).length) else (13, ⟨0, [], 0⟩, 0) := by
    rw [hx, tokP, if_pos hd]
  refine (number_call s hs r t a (Nat.le_of_lt (drop_lt hx)) h c d hr hrt a ht _ rfl).mono fun v s' hv => ?_
  rw [hP, ← hx]
  split at hv
  · rename_i hb
    obtain ⟨rfl, rfl⟩ := hv
    rw [if_pos hb]
    refine ⟨rfl, _, _, _, _, _, rfl, ((Fr.refl _ _ _).upd _ (.inl (by simp)) (Nat.le_refl _)).upd _ (.inl (by simp)) (Nat.le_refl _), upd_same _ _ _, fun _ => ⟨rfl, rfl, rfl, ?_⟩⟩
    rw [upd_ne _ _ hrt, upd_same]
  · rename_i hb
    obtain ⟨rfl, rfl⟩ := hv
    rw [if_neg hb]
    refine ⟨rfl, _, _, _, _, _, rfl, (Fr.refl _ _ _).upd _ (.inl (by simp)) (Nat.le_refl _), (upd_ne _ _ (Ne.symm hrt)).trans ht, fun e => by simp at e⟩

theorem reads_text (hs : s.length < 4294967281) (hx : s.drop a = x :: l) (hd : digitB x = false) (hq : x = 34) (hrc : r < c) (htc : t < c) (hrt : r ≠ t) (hr : h r = some (rdr s a)) (ht : h t = some (tokO 0 [] 0 a)) :
    Does X 26 [.ptr r 0, .ptr t 0] ⟨h, c, d⟩ (ReadsP s r t a c a h d (tokP (s.drop a))) := by
  have hP : tokP (s.drop a) = if (unq (x :: l)).2.2 = 0 then (0, ⟨2, (unq (x :: l)).1, 0⟩, (unq (x :: l)).2.1) else ((unq (x :: l)).2.2, ⟨0, [], 0⟩, 0) := by
    rw [hx, tokP, if_neg (by simp [hd]), if_pos hq]
  have hle : (unq (s.drop a)).2.1 < 4294967281 := by
    have := unq_len (s.drop a)
    simp at this; omega
  refine (text_call s hs r t a (Nat.le_of_lt (drop_lt hx)) h c d hrc htc hr hrt a ht hle).mono fun v s' hv => ?_
  obtain ⟨rfl, h', c', rfl, f, hr', ht'⟩ := hv
  rw [hP, ← hx]
  split
  · rename_i he
    exact ⟨by rw [he], _, _, _, _, _, rfl, f, ht', fun _ => ⟨rfl, rfl, rfl, hr'⟩⟩
  · rename_i he
    exact ⟨rfl, _, _, _, _, _, rfl, f, ht', fun e => absurd e he⟩

theorem reads_name (hs : s.length < 4294967281) (hx : s.drop a = x :: l) (hd : digitB x = false) (hq : x ≠ 34) (hn : (smallB x || largeB x) = true) (hrc : r < c) (htc : t < c) (hrt : r ≠ t) (hr : h r = some (rdr s a)) (ht : h t = some (tokO 0 [] 0 a)) :
    Does X 29 [.ptr r 0, .ptr t 0] ⟨h, c, d⟩ (ReadsP s r t a c a h d (tokP (s.drop a))) := by
  have hP : tokP (s.drop a) = if 16 < ((x :: l).takeWhile innerB).length then (12, ⟨0, [], 0⟩, 0) else (0, ⟨nameKind ((x :: l).takeWhile innerB), (x :: l).takeWhile innerB, 0⟩, ((x :: l).takeWhile innerB).length) := by
    rw [hx, tokP, if_neg (by simp [hd]), if_neg hq, if_pos hn]
  have hne : (s.drop a).takeWhile innerB ≠ [] := by
    rw [hx, List.takeWhile_cons, if_pos]
    · simp
    · simp only [innerB, isInner, smallB, largeB, Bool.or_eq_true] at hn ⊢
      exact hn.elim .inl fun h => .inr (.inl h)
  refine (name_call s hs r t a (drop_lt hx) h c d hr hrt a ht _ rfl hne).mono fun v s' hv => ?_
  rw [hP, ← hx]
  split at hv
  · rename_i hb
    obtain ⟨rfl, o, rfl, rfl⟩ := hv
    rw [if_pos hb]
    exact ⟨rfl, _, _, _, _, _, rfl, ((Fr.refl _ _ _).upd _ (.inl (by simp)) (Nat.le_refl _)).upd _ (.inl (by simp)) (Nat.le_refl _), upd_same _ _ _, fun e => by simp at e⟩
  · rename_i hb
    obtain ⟨rfl, rfl⟩ := hv
    rw [if_neg hb]
    exact ⟨rfl, _, _, _, _, _, rfl, ((Fr.refl _ _ _).upd _ (.inl (by simp)) (Nat.le_refl _)).upd _ (.inl (by simp)) (Nat.le_refl _), upd_same _ _ _, fun _ => ⟨rfl, rfl, rfl, (upd_ne _ _ hrt).trans (upd_same _ _ _)⟩⟩

theorem reads_sign (hs : s.length < 4294967281) (hx : s.drop a = x :: l) (hd : digitB x = false) (hq : x ≠ 34) (hn : (smallB x || largeB x) = false) (hg : signB x = true) (hrc : r < c) (htc : t < c) (hrt : r ≠ t) (hr : h r = some (rdr s a)) (ht : h t = some (tokO 0 [] 0 a)) :
    Does X 31 [.ptr r 0, .ptr t 0] ⟨h, c, d⟩ (ReadsP s r t a c a h d (tokP (s.drop a))) := by
  have hP : tokP (s.drop a) = if (x :: l).take 2 = [45, 62] then (0, ⟨5, (x :: l).take 2, 0⟩, 2) else (0, ⟨5, (x :: l).take 1, 0⟩, 1) := by
    rw [hx, tokP, if_neg (by simp [hd]), if_neg hq, if_neg (by simp [hn]), if_pos hg]
  refine (sign_call s hs r t a (drop_lt hx) h c d hr hrt a ht _ rfl).mono fun v s' hv => ?_
  obtain ⟨rfl, rfl⟩ := hv
  rw [hP, ← hx]
  split
  · exact ⟨rfl, _, _, _, _, _, rfl, ((Fr.refl _ _ _).upd _ (.inl (by simp)) (Nat.le_refl _)).upd _ (.inl (by simp)) (Nat.le_refl _), (upd_ne _ _ (Ne.symm hrt)).trans (upd_same _ _ _), fun _ => ⟨rfl, rfl, rfl, upd_same _ _ _⟩⟩
  · exact ⟨rfl, _, _, _, _, _, rfl, ((Fr.refl _ _ _).upd _ (.inl (by simp)) (Nat.le_refl _)).upd _ (.inl (by simp)) (Nat.le_refl _), (upd_ne _ _ (Ne.symm hrt)).trans (upd_same _ _ _), fun _ => ⟨rfl, rfl, rfl, upd_same _ _ _⟩⟩

theorem reads_odd (hx : s.drop a = x :: l) (hd : digitB x = false) (hq : x ≠ 34) (hn : (smallB x || largeB x) = false) (hg : signB x = false) (ht : h t = some (tokO 0 [] 0 a)) :
    Does X 23 [.ptr r 0, .ptr t 0] ⟨h, c, d⟩ (ReadsP s r t a c a h d (tokP (s.drop a))) := by
  have hP : tokP (s.drop a) = (10, ⟨0, [], 0⟩, 0) := by
    rw [hx, tokP, if_neg (by simp [hd]), if_neg hq, if_neg (by simp [hn]), if_neg (by simp [hg])]
  refine (odd_call _ _ _).mono fun v s' hv => ?_
  obtain ⟨rfl, rfl⟩ := hv
  rw [hP]
  exact ⟨rfl, _, _, _, _, _, rfl, Fr.refl _ _ _, ht, fun e => by simp at e⟩
end

def zeroT : List AV := [.int .i64 0, .str [], .int .i64 0, .int .i64 0]

theorem skipM_le : ∀ (b : Bool) (l : List UInt8), skipM b l ≤ l.length
  | b, [] => by cases b <;> simp [skipM]
  | true, c :: l => by
    have h1 := skipM_le false l
    have h2 := skipM_le true l
    simp only [skipM, List.length_cons]; split <;> omega
  | false, c :: l => by
    have h1 := skipM_le false l
    have h2 := skipM_le true l
    simp only [skipM, List.length_cons]; split
    · omega
    · split <;> omega

theorem next_call (s : List UInt8) (hs : s.length < 4294967281) (r i : Nat) (hi : i ≤ s.length) (h : Hp) (c : Nat) (d : List (Nat × List AV)) (hrc : r < c) (hr : h r = some (rdr s i)) (a : Nat) (ha : a = i + skipM false (s.drop i)) :
    Does X 18 [.ptr r 0] ⟨h, c, d⟩ fun v s' => ∃ k w n h' c', v = .tuple [.agg (tokC k w n a), .int .i64 (tokP (s.drop a)).1] ∧ s' = ⟨h', c', d⟩ ∧ Fr h c h' c' [r] ∧
      ((tokP (s.drop a)).1 = 0 → k = (tokP (s.drop a)).2.1.k ∧ w = (tokP (s.drop a)).2.1.t ∧ n = (tokP (s.drop a)).2.1.n ∧ h' r = some (rdr s (a + (tokP (s.drop a)).2.2))) := by
  refine call_aw b18 rfl rfl rfl ?_; delta b18
  have hrc1 : r ≠ c := by omega
  have hrc2 : r ≠ c + 1 := by omega
  simp -dsimp -implicitDefEqProofs only [go_sem, Nat.reduceAdd, Nat.reduceEqDiff, reduceIte, reduceCtorEq, Nat.reduceLeDiff, Nat.reduceLT, Nat.reduceSub, Int.reduceEq, Int.reduceLT, OpK_alloc, preH]
  refine DoesK_of (skip_call s hs r i hi _ _ _ (by rw [upd_ne _ _ hrc1]; exact hr)) ?_
  rintro v s' ⟨rfl, rfl⟩
  rw [← ha]
  have hu1 : ∀ h o, upd h c o r = h r := fun h o => upd_ne h o hrc1
  have hu2 : ∀ h o, upd h (c + 1) o r = h r := fun h o => upd_ne h o hrc2
  have hu3 : ∀ h o, upd h (c + 1) o c = h c := fun h o => upd_ne h o (by omega)
  have hu4 : ∀ h o, upd h r o c = h c := fun h o => upd_ne h o (by omega)
  simp -dsimp -implicitDefEqProofs only [go_sem, Nat.reduceAdd, Nat.reduceEqDiff, reduceIte, reduceCtorEq, Nat.reduceLeDiff, Nat.reduceLT, Nat.reduceSub, Int.reduceEq, Int.reduceLT, OpK_alloc, preH, hu1, hu2, hu3, hu4, rdr, fillV]
  have hF : Fr h c (upd (upd (upd h c (.cells zeroT)) r (rdr s a)) (c + 1) (tokO 0 [] 0 a)) (c + 1 + 1) [r] := (((Fr.refl h c [r]).upd _ (.inr (Nat.le_refl _)) (Nat.le_refl _)).upd _ (.inl (by simp)) (Nat.le_refl _)).upd _ (.inr (by omega)) (by omega)
  have Hr : upd (upd (upd h c (.cells zeroT)) r (rdr s a)) (c + 1) (tokO 0 [] 0 a) r = some (rdr s a) := by rw [hu2, upd_same]
  have Ht : upd (upd (upd h c (.cells zeroT)) r (rdr s a)) (c + 1) (tokO 0 [] 0 a) (c + 1) = some (tokO 0 [] 0 a) := upd_same _ _ _
  have Hc : upd (upd (upd h c (.cells zeroT)) r (rdr s a)) (c + 1) (tokO 0 [] 0 a) c = some (.cells zeroT) := by rw [hu3, hu4, upd_same]
  refine CondV_split (fun hq => ?_) fun hq => ?_
  · have hal : a = s.length := by simp at hq; omega
    have htk : tokP (s.drop a) = (0, ⟨0, [], 0⟩, 0) := by rw [hal, List.drop_length]; rfl
    rw [htk]
    change Aw X _ _ _ _ _ ⟨upd (upd (upd h c (.cells zeroT)) r (rdr s a)) (c + 1) (tokO 0 [] 0 a), _, _⟩
    generalize upd (upd (upd h c (.cells zeroT)) r (rdr s a)) (c + 1) (tokO 0 [] 0 a) = H at hF Hr Ht Hc ⊢
    simp -dsimp -implicitDefEqProofs only [go_sem, Nat.reduceAdd, Nat.reduceEqDiff, reduceIte, reduceCtorEq, Nat.reduceLeDiff, Nat.reduceLT, Nat.reduceSub, Int.reduceEq, Int.reduceLT, Hr, Ht, Hc, tokO, tokC, zeroT, ldCells]
    exact ⟨_, _, _, _, _, rfl, rfl, hF.upd _ (.inr (Nat.le_refl _)) (Nat.le_refl _), fun _ => ⟨rfl, rfl, rfl, (upd_ne _ _ hrc1).trans Hr⟩⟩
  · have hal : a < s.length := by
      have h1 : skipM false (s.drop i) ≤ (s.drop i).length := skipM_le _ _
      rw [List.length_drop] at h1
      simp at hq; omega
    change Aw X _ _ _ _ _ ⟨upd (upd (upd h c (.cells zeroT)) r (rdr s a)) (c + 1) (tokO 0 [] 0 a), _, _⟩
    generalize upd (upd (upd h c (.cells zeroT)) r (rdr s a)) (c + 1) (tokO 0 [] 0 a) = H at hF Hr Ht Hc ⊢
    have hg := List.getElem?_eq_getElem hal
    have hdr : s.drop a = s[a] :: s.drop (a + 1) := List.drop_eq_getElem_cons hal
    generalize s[a] = x at hg hdr
    generalize hl : s.drop (a + 1) = l at hdr
    simp -dsimp -implicitDefEqProofs only [go_sem, Nat.reduceAdd, Nat.reduceEqDiff, reduceIte, reduceCtorEq, Nat.reduceLeDiff, Nat.reduceLT, Nat.reduceSub, Int.reduceEq, Int.reduceLT, Hr, rdr, strAt_nat, hg]
    refine DoesK_of (digit_call _ _) ?_
    rintro v s' ⟨rfl, rfl⟩
    simp -dsimp -implicitDefEqProofs only [go_sem, Nat.reduceAdd, Nat.reduceEqDiff, reduceIte, reduceCtorEq, Nat.reduceLeDiff, Nat.reduceLT, Nat.reduceSub, Int.reduceEq, Int.reduceLT]
    refine CondV_split (fun hd => ?_) fun hd => ?_
    · simp -dsimp -implicitDefEqProofs only [go_sem, Nat.reduceAdd, Nat.reduceEqDiff, reduceIte, reduceCtorEq, Nat.reduceLeDiff, Nat.reduceLT, Nat.reduceSub, Int.reduceEq, Int.reduceLT]
      refine DoesK_of (reads_number hs hdr hd (by omega) (by omega) (by omega) Hr Ht) ?_
      rintro v s' ⟨rfl, h', c', k, w, n, rfl, f, ht', hres⟩
      have hc' : h' c = some (.cells zeroT) := (f.at (by omega) (by simp; omega)).trans Hc
      simp -dsimp -implicitDefEqProofs only [go_sem, Nat.reduceAdd, Nat.reduceEqDiff, reduceIte, reduceCtorEq, Nat.reduceLeDiff, Nat.reduceLT, Nat.reduceSub, Int.reduceEq, Int.reduceLT, ht', tokO, tokC, hc', zeroT, ldCells, hu3]
      exact ⟨_, _, _, _, _, rfl, rfl, ((hF.trans f (by simp)).upd _ (.inr (Nat.le_refl _)) (Nat.le_refl _)), fun e => by obtain ⟨e1, e2, e3, e4⟩ := hres e; exact ⟨e1, e2, e3, (upd_ne _ _ hrc1).trans e4⟩⟩
    · simp -dsimp -implicitDefEqProofs only [go_sem, Nat.reduceAdd, Nat.reduceEqDiff, reduceIte, reduceCtorEq, Nat.reduceLeDiff, Nat.reduceLT, Nat.reduceSub, Int.reduceEq, Int.reduceLT]
      refine CondV_split (fun h34 => ?_) fun h34 => ?_
      · have hx34 : x = 34 := byte_of h34 rfl
        simp -dsimp -implicitDefEqProofs only [go_sem, Nat.reduceAdd, Nat.reduceEqDiff, reduceIte, reduceCtorEq, Nat.reduceLeDiff, Nat.reduceLT, Nat.reduceSub, Int.reduceEq, Int.reduceLT]
        refine DoesK_of (reads_text hs hdr hd hx34 (by omega) (by omega) (by omega) Hr Ht) ?_
        rintro v s' ⟨rfl, h', c', k, w, n, rfl, f, ht', hres⟩
        have hc' : h' c = some (.cells zeroT) := (f.at (by omega) (by simp; omega)).trans Hc
        simp -dsimp -implicitDefEqProofs only [go_sem, Nat.reduceAdd, Nat.reduceEqDiff, reduceIte, reduceCtorEq, Nat.reduceLeDiff, Nat.reduceLT, Nat.reduceSub, Int.reduceEq, Int.reduceLT, ht', tokO, tokC, hc', zeroT, ldCells, hu3]
        exact ⟨_, _, _, _, _, rfl, rfl, ((hF.trans f (by simp)).upd _ (.inr (Nat.le_refl _)) (Nat.le_refl _)), fun e => by obtain ⟨e1, e2, e3, e4⟩ := hres e; exact ⟨e1, e2, e3, (upd_ne _ _ hrc1).trans e4⟩⟩
      · have hx34 : x ≠ 34 := byte_ne h34 rfl
        simp -dsimp -implicitDefEqProofs only [go_sem, Nat.reduceAdd, Nat.reduceEqDiff, reduceIte, reduceCtorEq, Nat.reduceLeDiff, Nat.reduceLT, Nat.reduceSub, Int.reduceEq, Int.reduceLT]
        refine DoesK_of (small_call _ _) ?_
        rintro v s' ⟨rfl, rfl⟩
        cases hsm : isSmall x.toNat with
        | true =>
          simp -dsimp -implicitDefEqProofs only [go_sem, Nat.reduceAdd, Nat.reduceEqDiff, reduceIte, reduceCtorEq, Nat.reduceLeDiff, Nat.reduceLT, Nat.reduceSub, Int.reduceEq, Int.reduceLT, CondV_true, CondV_false]
          refine DoesK_of (reads_name hs hdr hd hx34 (by simp [smallB, hsm]) (by omega) (by omega) (by omega) Hr Ht) ?_
          rintro v s' ⟨rfl, h', c', k, w, n, rfl, f, ht', hres⟩
          have hc' : h' c = some (.cells zeroT) := (f.at (by omega) (by simp; omega)).trans Hc
          simp -dsimp -implicitDefEqProofs only [go_sem, Nat.reduceAdd, Nat.reduceEqDiff, reduceIte, reduceCtorEq, Nat.reduceLeDiff, Nat.reduceLT, Nat.reduceSub, Int.reduceEq, Int.reduceLT, ht', tokO, tokC, hc', zeroT, ldCells, hu3]
          exact ⟨_, _, _, _, _, rfl, rfl, ((hF.trans f (by simp)).upd _ (.inr (Nat.le_refl _)) (Nat.le_refl _)), fun e => by obtain ⟨e1, e2, e3, e4⟩ := hres e; exact ⟨e1, e2, e3, (upd_ne _ _ hrc1).trans e4⟩⟩
        | false =>
          simp -dsimp -implicitDefEqProofs only [go_sem, Nat.reduceAdd, Nat.reduceEqDiff, reduceIte, reduceCtorEq, Nat.reduceLeDiff, Nat.reduceLT, Nat.reduceSub, Int.reduceEq, Int.reduceLT, CondV_true, CondV_false]
          refine DoesK_of (large_call _ _) ?_
          rintro v s' ⟨rfl, rfl⟩
          cases hlg : isLarge x.toNat with
          | true =>
            simp -dsimp -implicitDefEqProofs only [go_sem, Nat.reduceAdd, Nat.reduceEqDiff, reduceIte, reduceCtorEq, Nat.reduceLeDiff, Nat.reduceLT, Nat.reduceSub, Int.reduceEq, Int.reduceLT, CondV_true, CondV_false]
            refine DoesK_of (reads_name hs hdr hd hx34 (by simp [largeB, hlg]) (by omega) (by omega) (by omega) Hr Ht) ?_
            rintro v s' ⟨rfl, h', c', k, w, n, rfl, f, ht', hres⟩
            have hc' : h' c = some (.cells zeroT) := (f.at (by omega) (by simp; omega)).trans Hc
            simp -dsimp -implicitDefEqProofs only [go_sem, Nat.reduceAdd, Nat.reduceEqDiff, reduceIte, reduceCtorEq, Nat.reduceLeDiff, Nat.reduceLT, Nat.reduceSub, Int.reduceEq, Int.reduceLT, ht', tokO, tokC, hc', zeroT, ldCells, hu3]
            exact ⟨_, _, _, _, _, rfl, rfl, ((hF.trans f (by simp)).upd _ (.inr (Nat.le_refl _)) (Nat.le_refl _)), fun e => by obtain ⟨e1, e2, e3, e4⟩ := hres e; exact ⟨e1, e2, e3, (upd_ne _ _ hrc1).trans e4⟩⟩
          | false =>
            simp -dsimp -implicitDefEqProofs only [go_sem, Nat.reduceAdd, Nat.reduceEqDiff, reduceIte, reduceCtorEq, Nat.reduceLeDiff, Nat.reduceLT, Nat.reduceSub, Int.reduceEq, Int.reduceLT, CondV_true, CondV_false]
            refine DoesK_of (indexByte_call signsText x _) ?_
            rintro v s' ⟨rfl, rfl⟩
            have hsl : (smallB x || largeB x) = false := by simp [smallB, largeB, hsm, hlg]
            simp -dsimp -implicitDefEqProofs only [go_sem, Nat.reduceAdd, Nat.reduceEqDiff, reduceIte, reduceCtorEq, Nat.reduceLeDiff, Nat.reduceLT, Nat.reduceSub, Int.reduceEq, Int.reduceLT]
            refine CondV_split (fun hsg => ?_) fun hsg => ?_
            · simp -dsimp -implicitDefEqProofs only [go_sem, Nat.reduceAdd, Nat.reduceEqDiff, reduceIte, reduceCtorEq, Nat.reduceLeDiff, Nat.reduceLT, Nat.reduceSub, Int.reduceEq, Int.reduceLT]
              refine DoesK_of (reads_sign hs hdr hd hx34 hsl hsg (by omega) (by omega) (by omega) Hr Ht) ?_
              rintro v s' ⟨rfl, h', c', k, w, n, rfl, f, ht', hres⟩
              have hc' : h' c = some (.cells zeroT) := (f.at (by omega) (by simp; omega)).trans Hc
              simp -dsimp -implicitDefEqProofs only [go_sem, Nat.reduceAdd, Nat.reduceEqDiff, reduceIte, reduceCtorEq, Nat.reduceLeDiff, Nat.reduceLT, Nat.reduceSub, Int.reduceEq, Int.reduceLT, ht', tokO, tokC, hc', zeroT, ldCells, hu3]
              exact ⟨_, _, _, _, _, rfl, rfl, ((hF.trans f (by simp)).upd _ (.inr (Nat.le_refl _)) (Nat.le_refl _)), fun e => by obtain ⟨e1, e2, e3, e4⟩ := hres e; exact ⟨e1, e2, e3, (upd_ne _ _ hrc1).trans e4⟩⟩
            · simp -dsimp -implicitDefEqProofs only [go_sem, Nat.reduceAdd, Nat.reduceEqDiff, reduceIte, reduceCtorEq, Nat.reduceLeDiff, Nat.reduceLT, Nat.reduceSub, Int.reduceEq, Int.reduceLT]
              refine DoesK_of (reads_odd hdr hd hx34 hsl hsg Ht) ?_
              rintro v s' ⟨rfl, h', c', k, w, n, rfl, f, ht', hres⟩
              have hc' : h' c = some (.cells zeroT) := (f.at (by omega) (by simp; omega)).trans Hc
              simp -dsimp -implicitDefEqProofs only [go_sem, Nat.reduceAdd, Nat.reduceEqDiff, reduceIte, reduceCtorEq, Nat.reduceLeDiff, Nat.reduceLT, Nat.reduceSub, Int.reduceEq, Int.reduceLT, ht', tokO, tokC, hc', zeroT, ldCells, hu3]
              exact ⟨_, _, _, _, _, rfl, rfl, ((hF.trans f (by simp)).upd _ (.inr (Nat.le_refl _)) (Nat.le_refl _)), fun e => by obtain ⟨e1, e2, e3, e4⟩ := hres e; exact ⟨e1, e2, e3, (upd_ne _ _ hrc1).trans e4⟩⟩

end Go.Proofs.YtggdpckdlcngpaaDoor
