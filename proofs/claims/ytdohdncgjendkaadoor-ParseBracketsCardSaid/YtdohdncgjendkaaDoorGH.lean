/- Whether two nodes are the same, by the program. ParseBrackets: the walk. -/
import Derived.Test.YtdohdncgjendkaaDoorGD
import Derived.Test.YtdohdncgjendkaaDoorGF
set_option linter.unusedVariables false
set_option linter.unusedSimpArgs false
namespace Go.Proofs.YtdohdncgjendkaaDoor
open Abs Go.RowKit
set_option maxHeartbeats 8000000 in
theorem equalNames_call (l1 l2 : List (List UInt8)) (o1 o2 : Own) (h : Hp) (c : Nat) (d : List (Nat × List AV)) (hl : l1.length ≤ 1000000) : Does X 19 [.slice o1 (l1.map AV.str), .slice o2 (l2.map AV.str)] ⟨h, c, d⟩ (BK h c d (l1 = l2)) := by
 refine call_aw b19 rfl rfl rfl ?_; delta b19
 have fin : l1 ≠ l2 → BK h c d (l1 = l2) (.bool false) ⟨h, c, d⟩ := fun hn => ⟨false, rfl, ⟨fun e => Bool.noConfusion e, fun e => absurd e hn⟩, _, _, rfl, Fr.refl _ _ _⟩
 cases h1 : decide (¬ ((l1.length : Nat) : Int) = ((l2.length : Nat) : Int))
 case true =>
  simp -dsimp -implicitDefEqProofs only [go_sem, Nat.reduceAdd, Nat.reduceEqDiff, reduceIte, reduceCtorEq, Nat.reduceLeDiff, Nat.reduceLT, Nat.reduceSub, Int.reduceEq, Int.reduceLT, List.length_map, h1]
  exact fin (fun e => by rw [e] at h1; simp at h1)
 have e4 : l1.length = l2.length := by simp at h1; omega
 simp -dsimp -implicitDefEqProofs only [go_sem, Nat.reduceAdd, Nat.reduceEqDiff, reduceIte, reduceCtorEq, Nat.reduceLeDiff, Nat.reduceLT, Nat.reduceSub, Int.reduceEq, Int.reduceLT, List.length_map, h1, CondV_false]
 let I : Nat → AEnv → ASt → Prop := fun q e st => ∃ (j : Nat), q = l1.length - j ∧ j ≤ l1.length ∧ (∀ i, i < j → l1[i]? = l2[i]?) ∧ e.get 0 = .slice o1 (l1.map AV.str) ∧ e.get 1 = .slice o2 (l2.map AV.str) ∧ e.get 12 = .int .i64 (l1.length : Nat) ∧ e.get 13 = .int .i64 (j : Int) ∧ st = ⟨h, c, []⟩
 refine LoopK_rule I (l1.length) ⟨0, rfl, Nat.zero_le _, fun i hi => by omega, rfl, rfl, rfl, rfl, rfl⟩ ?_
 rintro q e st ⟨j, rfl, hj, hpre, g0, g1, g12, g13, rfl⟩
 simp -dsimp -implicitDefEqProofs only [go_sem, Nat.reduceAdd, Nat.reduceEqDiff, reduceIte, reduceCtorEq, Nat.reduceLeDiff, Nat.reduceLT, Nat.reduceSub, Int.reduceEq, Int.reduceLT, g12, g13]
 refine CondV_split (fun hc => ?_) fun hc => ?_
 ·have hj' : j < l1.length := by simp at hc; omega
  have q1 := List.getElem?_eq_getElem hj'
  have q2 := List.getElem?_eq_getElem (show j < l2.length by omega)
  generalize l1[j] = t1 at q1
  generalize l2[j] = t2 at q2
  have r1 : (l1.map AV.str)[j]? = some (.str t1) := by rw [List.getElem?_map, q1]; rfl
  have r2 : (l2.map AV.str)[j]? = some (.str t2) := by rw [List.getElem?_map, q2]; rfl
  have w3 : IntKind.wrap .i64 ((j : Int) + 1) = ((j + 1 : Nat) : Int) := by rw [wrap_i64 (by omega) (by omega)]; rfl
  cases ht : decide (¬ t1 = t2)
  ·have ht' : t1 = t2 := by simpa using ht
   simp -dsimp -implicitDefEqProofs only [go_sem, Nat.reduceAdd, Nat.reduceEqDiff, reduceIte, reduceCtorEq, Nat.reduceLeDiff, Nat.reduceLT, Nat.reduceSub, Int.reduceEq, Int.reduceLT, g0, g1, g12, g13, r1, r2, elemA, ht, w3]
   refine Again.of (l1.length - (j + 1)) (by omega) ⟨j + 1, rfl, hj', fun i hi => ?_, g0, g1, g12, rfl, rfl⟩
   rcases Nat.lt_or_ge i j with h' | h'
   ·exact hpre i h'
   ·rw [show i = j by omega, q1, q2, ht']
  ·have ht' : ¬ t1 = t2 := by simpa using ht
   simp -dsimp -implicitDefEqProofs only [go_sem, Nat.reduceAdd, Nat.reduceEqDiff, reduceIte, reduceCtorEq, Nat.reduceLeDiff, Nat.reduceLT, Nat.reduceSub, Int.reduceEq, Int.reduceLT, g0, g1, g12, g13, r1, r2, elemA, ht]
   refine fin (fun e => ?_)
   rw [e, q2] at q1
   exact ht' (by injection q1 with q1; exact q1.symm)
 ·simp -dsimp -implicitDefEqProofs only [go_sem, Nat.reduceAdd, Nat.reduceEqDiff, reduceIte, reduceCtorEq, Nat.reduceLeDiff, Nat.reduceLT, Nat.reduceSub, Int.reduceEq, Int.reduceLT]
  refine ⟨true, rfl, ⟨fun _ => ?_, fun _ => rfl⟩, _, _, rfl, Fr.refl _ _ _⟩
  apply List.ext_getElem?
  intro i
  rcases Nat.lt_or_ge i l1.length with hi | hi
  ·exact hpre i (by simp at hc; omega)
  ·rw [List.getElem?_eq_none hi, List.getElem?_eq_none (by omega)]
set_option maxHeartbeats 8000000 in
theorem equalKids_call (ks ls : List Nd) (es fs : List AV) (o1 o2 : Own) (h : Hp) (c : Nat) (d : List (Nat × List AV)) (hl : ks.length ≤ 1000000) (E1 : NRs ks es) (E2 : NRs ls fs)
  (ih : ∀ (i : Nat) (x y : Nd) (v w : AV) (h : Hp) (c : Nat) (d : List (Nat × List AV)), ks[i]? = some x → NR x v → NR y w → Does X 15 [v, w] ⟨h, c, d⟩ (BK h c d (erN x = erN y))) :
  Does X 20 [.slice o1 es, .slice o2 fs, .func 15 [] []] ⟨h, c, d⟩ (BK h c d (erL ks = erL ls)) := by
 refine call_aw b20 rfl rfl rfl ?_; delta b20
 have l1 := E1.1
 have l2 := E2.1
 have fin : erL ks ≠ erL ls → ∀ (H' : Hp) (C' : Nat), Fr h c H' C' [] → BK h c d (erL ks = erL ls) (.bool false) ⟨H', C', d⟩ := fun hn H' C' hF => ⟨false, rfl, ⟨fun e => Bool.noConfusion e, fun e => absurd e hn⟩, H', C', rfl, hF⟩
 cases h1 : decide (¬ ((ks.length : Nat) : Int) = ((ls.length : Nat) : Int))
 case true =>
  simp -dsimp -implicitDefEqProofs only [go_sem, Nat.reduceAdd, Nat.reduceEqDiff, reduceIte, reduceCtorEq, Nat.reduceLeDiff, Nat.reduceLT, Nat.reduceSub, Int.reduceEq, Int.reduceLT, l1, l2, h1]
  exact fin (fun e => by have := congrArg List.length e; simp only [erL_len] at this; simp at h1; exact h1 (by omega)) _ _ (Fr.refl _ _ _)
 have e5 : ks.length = ls.length := by simp at h1; omega
 simp -dsimp -implicitDefEqProofs only [go_sem, Nat.reduceAdd, Nat.reduceEqDiff, reduceIte, reduceCtorEq, Nat.reduceLeDiff, Nat.reduceLT, Nat.reduceSub, Int.reduceEq, Int.reduceLT, l1, l2, h1, CondV_false]
 let I : Nat → AEnv → ASt → Prop := fun q e st => ∃ (j : Nat) (H : Hp) (C : Nat), q = ks.length - j ∧ j ≤ ks.length ∧ (∀ i x' y', i < j → ks[i]? = some x' → ls[i]? = some y' → erN x' = erN y') ∧ Fr h c H C [] ∧ e.get 15 = .slice o1 es ∧ e.get 1 = .slice o2 fs ∧ e.get 2 = .func 15 [] [] ∧ e.get 16 = .int .i64 (ks.length : Nat) ∧ e.get 17 = .int .i64 (j : Int) ∧ st = ⟨H, C, []⟩
 refine LoopK_rule I (ks.length) ⟨0, h, c, rfl, Nat.zero_le _, fun i _ _ hi => by omega, Fr.refl _ _ _, rfl, rfl, rfl, rfl, rfl, rfl⟩ ?_
 rintro q e st ⟨j, H, C, rfl, hj, hpre, HF, g15, g1, g2, g16, g17, rfl⟩
 simp -dsimp -implicitDefEqProofs only [go_sem, Nat.reduceAdd, Nat.reduceEqDiff, reduceIte, reduceCtorEq, Nat.reduceLeDiff, Nat.reduceLT, Nat.reduceSub, Int.reduceEq, Int.reduceLT, g16, g17]
 refine CondV_split (fun hc => ?_) fun hc => ?_
 ·have hj' : j < ks.length := by simp at hc; omega
  have q1 := List.getElem?_eq_getElem hj'
  have q2 := List.getElem?_eq_getElem (show j < ls.length by omega)
  generalize ks[j] = x1 at q1
  generalize ls[j] = y1 at q2
  have r1 := List.getElem?_eq_getElem (show j < es.length by omega)
  have r2 := List.getElem?_eq_getElem (show j < fs.length by omega)
  have n1 := E1.2 _ _ _ q1 r1
  have n2 := E2.2 _ _ _ q2 r2
  generalize es[j] = v1 at r1 n1
  generalize fs[j] = v2 at r2 n2
  obtain ⟨p1, p2, p3, rfl, _⟩ := n1.inv
  obtain ⟨p4, p5, p6, rfl, _⟩ := n2.inv
  have w3 : IntKind.wrap .i64 ((j : Int) + 1) = ((j + 1 : Nat) : Int) := by rw [wrap_i64 (by omega) (by omega)]; rfl
  have u1 : ∀ h x, upd h (C + 1) x C = h C := fun h x => upd_ne h x (by omega)
  simp -dsimp -implicitDefEqProofs only [go_sem, Nat.reduceAdd, Nat.reduceEqDiff, reduceIte, reduceCtorEq, Nat.reduceLeDiff, Nat.reduceLT, Nat.reduceSub, Int.reduceEq, Int.reduceLT, preH, OpK_alloc, g15, g1, g2, g16, g17, ldCells, r1, r2, elemA, upd_same, u1]
  refine DoesK_of (ih _ _ _ _ _ _ _ _ q1 n1 n2) ?_
  rintro r st ⟨b, rfl, hb, H2, C2, rfl, f2⟩
  have HF1 : ∀ a b x y, Fr h c (upd (upd (upd (upd H C a) C b) (C + 1) x) (C + 1) y) (C + 1 + 1) [] := fun a b x y => (((HF.upd _ (.inr HF.le) (Nat.le_refl _)).upd _ (.inr HF.le) (Nat.le_succ _)).upd _ (.inr (by have := HF.le; omega)) (Nat.le_succ _)).upd _ (.inr (by have := HF.le; omega)) (Nat.le_refl _)
  have HF2 : Fr h c H2 C2 [] := by
   first
    | exact (HF1 _ _ _ _).trans f2 (by simp)
    | exact (((HF.upd _ (.inr HF.le) (Nat.le_succ _)).upd _ (.inr (by have := HF.le; omega)) (Nat.le_succ _))).trans f2 (by simp)
  cases b
  ·simp -dsimp -implicitDefEqProofs only [go_sem, Nat.reduceAdd, Nat.reduceEqDiff, reduceIte, reduceCtorEq, Nat.reduceLeDiff, Nat.reduceLT, Nat.reduceSub, Int.reduceEq, Int.reduceLT]
   refine fin (fun e => ?_) _ _ HF2
   exact erL_ne q1 q2 (fun e' => by have := hb.2 e'; cases this) e
  ·simp -dsimp -implicitDefEqProofs only [go_sem, Nat.reduceAdd, Nat.reduceEqDiff, reduceIte, reduceCtorEq, Nat.reduceLeDiff, Nat.reduceLT, Nat.reduceSub, Int.reduceEq, Int.reduceLT, g17, w3]
   refine Again.of (ks.length - (j + 1)) (by omega) ⟨j + 1, H2, C2, rfl, hj', fun i x' y' hi h1 h2 => ?_, HF2, g15, g1, g2, g16, rfl, rfl⟩
   rcases Nat.lt_or_ge i j with h' | h'
   ·exact hpre i x' y' h' h1 h2
   ·rw [show i = j by omega] at h1 h2
    rw [q1] at h1; rw [q2] at h2
    cases h1; cases h2
    exact hb.1 rfl
 ·simp -dsimp -implicitDefEqProofs only [go_sem, Nat.reduceAdd, Nat.reduceEqDiff, reduceIte, reduceCtorEq, Nat.reduceLeDiff, Nat.reduceLT, Nat.reduceSub, Int.reduceEq, Int.reduceLT]
  refine ⟨true, rfl, ⟨fun _ => erL_all e5 fun i x' y' h1 h2 => ?_, fun _ => rfl⟩, _, _, rfl, HF⟩
  refine hpre i x' y' ?_ h1 h2
  have : i < ks.length := by
   rcases Nat.lt_or_ge i ks.length with h' | h'
   ·exact h'
   ·rw [List.getElem?_eq_none h'] at h1; cases h1
  simp at hc; omega
set_option maxHeartbeats 8000000 in
theorem same_call : ∀ (m : Nat) (x y : Nd) (v w : AV) (h : Hp) (c : Nat) (d : List (Nat × List AV)), SizeOf.sizeOf x ≤ m → Wd x → NR x v → NR y w → Does X 15 [v, w] ⟨h, c, d⟩ (BK h c d (erN x = erN y)) := by
 intro m
 induction m with
 | zero => intro x y v w h c d hm; obtain ⟨k, t, n, a, ns, ks⟩ := x; simp only [Nd.mk.sizeOf_spec] at hm; omega
 | succ m ih =>
 intro x y v w h c d hm hw hv hy
 obtain ⟨o1, o2, es, rfl, E1⟩ := hv.inv
 obtain ⟨o3, o4, fs, rfl, E2⟩ := hy.inv
 have hkid : ∀ (i : Nat) (z : Nd), x.ks[i]? = some z → SizeOf.sizeOf z ≤ m ∧ Wd z := by
  intro i z hz
  obtain ⟨k, t, n, a, ns, ks⟩ := x
  have := kid_size (k := k) (t := t) (n := n) (a := a) (ns := ns) (show ks[i]? = some z from hz)
  cases hw with
  | mk _ _ hk => exact ⟨by omega, hk z (List.mem_of_getElem? hz)⟩
 have hwl : x.ns.length ≤ 1000000 ∧ x.ks.length ≤ 1000000 := by cases hw with | mk h1 h2 _ => exact ⟨h1, h2⟩
 refine call_aw b15 rfl rfl rfl ?_; delta b15
 have u0 : ∀ h x, upd h (c + 1) x c = h c := fun h x => upd_ne h x (by omega)
 have u1 : ∀ h x, upd h c x (c + 1) = h (c + 1) := fun h x => upd_ne h x (by omega)
 obtain ⟨H, hH⟩ : ∃ H, H = upd (upd h c (.cells [.int .i64 x.k, .str x.t, .int .i64 x.n, .int .i64 x.a, .slice o1 (x.ns.map AV.str), .slice o2 es])) (c + 1) (.cells [.int .i64 y.k, .str y.t, .int .i64 y.n, .int .i64 y.a, .slice o3 (y.ns.map AV.str), .slice o4 fs]) := ⟨_, rfl⟩
 have Z0 : H c = some (.cells [.int .i64 x.k, .str x.t, .int .i64 x.n, .int .i64 x.a, .slice o1 (x.ns.map AV.str), .slice o2 es]) := by rw [hH, u0, upd_same]
 have Z1 : H (c + 1) = some (.cells [.int .i64 y.k, .str y.t, .int .i64 y.n, .int .i64 y.a, .slice o3 (y.ns.map AV.str), .slice o4 fs]) := by rw [hH, upd_same]
 have HF : Fr h c H (c + 2) [] := by rw [hH]; exact ((Fr.refl h c []).upd _ (.inr (Nat.le_refl _)) (Nat.le_refl _)).upd _ (.inr (Nat.le_succ _)) (by omega)
 have fin : erN x ≠ erN y → ∀ (H' : Hp) (C' : Nat), Fr h c H' C' [] → BK h c d (erN x = erN y) (.bool false) ⟨H', C', d⟩ := fun hn H' C' hF => ⟨false, rfl, ⟨fun e => Bool.noConfusion e, fun e => absurd e hn⟩, H', C', rfl, hF⟩
 cases h1 : decide (x.k = y.k)
 case false =>
  simp -dsimp -implicitDefEqProofs only [go_sem, Nat.reduceAdd, Nat.reduceEqDiff, reduceIte, reduceCtorEq, Nat.reduceLeDiff, Nat.reduceLT, Nat.reduceSub, Int.reduceEq, Int.reduceLT, preH, boxV]
  rw [← hH]
  simp -dsimp -implicitDefEqProofs only [go_sem, Nat.reduceAdd, Nat.reduceEqDiff, reduceIte, reduceCtorEq, Nat.reduceLeDiff, Nat.reduceLT, Nat.reduceSub, Int.reduceEq, Int.reduceLT, Z0, Z1, ldCells, h1]
  exact fin (fun e => by simp [(erN_eq.1 e).1] at h1) _ _ HF
 cases h2 : decide (x.t = y.t)
 case false =>
  simp -dsimp -implicitDefEqProofs only [go_sem, Nat.reduceAdd, Nat.reduceEqDiff, reduceIte, reduceCtorEq, Nat.reduceLeDiff, Nat.reduceLT, Nat.reduceSub, Int.reduceEq, Int.reduceLT, preH, boxV]
  rw [← hH]
  simp -dsimp -implicitDefEqProofs only [go_sem, Nat.reduceAdd, Nat.reduceEqDiff, reduceIte, reduceCtorEq, Nat.reduceLeDiff, Nat.reduceLT, Nat.reduceSub, Int.reduceEq, Int.reduceLT, Z0, Z1, ldCells, h1, h2]
  exact fin (fun e => by simp [(erN_eq.1 e).2.1] at h2) _ _ HF
 cases h3 : decide (x.n = y.n)
 case false =>
  simp -dsimp -implicitDefEqProofs only [go_sem, Nat.reduceAdd, Nat.reduceEqDiff, reduceIte, reduceCtorEq, Nat.reduceLeDiff, Nat.reduceLT, Nat.reduceSub, Int.reduceEq, Int.reduceLT, preH, boxV]
  rw [← hH]
  simp -dsimp -implicitDefEqProofs only [go_sem, Nat.reduceAdd, Nat.reduceEqDiff, reduceIte, reduceCtorEq, Nat.reduceLeDiff, Nat.reduceLT, Nat.reduceSub, Int.reduceEq, Int.reduceLT, Z0, Z1, ldCells, h1, h2, h3]
  exact fin (fun e => by simp [(erN_eq.1 e).2.2.1] at h3) _ _ HF
 simp -dsimp -implicitDefEqProofs only [go_sem, Nat.reduceAdd, Nat.reduceEqDiff, reduceIte, reduceCtorEq, Nat.reduceLeDiff, Nat.reduceLT, Nat.reduceSub, Int.reduceEq, Int.reduceLT, preH, boxV]
 rw [← hH]
 clear hH
 simp -dsimp -implicitDefEqProofs only [go_sem, Nat.reduceAdd, Nat.reduceEqDiff, reduceIte, reduceCtorEq, Nat.reduceLeDiff, Nat.reduceLT, Nat.reduceSub, Int.reduceEq, Int.reduceLT, Z0, Z1, ldCells, h1, h2, h3]
 have e1 : x.k = y.k := by simpa using h1
 have e2 : x.t = y.t := by simpa using h2
 have e3 : x.n = y.n := by simpa using h3
 refine DoesK_of (equalNames_call _ _ _ _ _ _ _ hwl.1) ?_
 rintro r st ⟨b, rfl, hb, H2, C2, rfl, f2⟩
 have Z0' := (f2.at (by omega) (by simp)).trans Z0
 have Z1' := (f2.at (by omega) (by simp)).trans Z1
 cases b
 ·simp -dsimp -implicitDefEqProofs only [go_sem, Nat.reduceAdd, Nat.reduceEqDiff, reduceIte, reduceCtorEq, Nat.reduceLeDiff, Nat.reduceLT, Nat.reduceSub, Int.reduceEq, Int.reduceLT]
  exact fin (fun e => by have := hb.2 (erN_eq.1 e).2.2.2.1; cases this) _ _ (HF.trans f2 (by simp))
 ·have e6 := hb.1 rfl
  simp -dsimp -implicitDefEqProofs only [go_sem, Nat.reduceAdd, Nat.reduceEqDiff, reduceIte, reduceCtorEq, Nat.reduceLeDiff, Nat.reduceLT, Nat.reduceSub, Int.reduceEq, Int.reduceLT, Z0', Z1', ldCells]
  refine DoesK_of (equalKids_call _ _ _ _ _ _ _ _ _ hwl.2 E1 E2 fun i z y' v w h c d hz n1 n2 => ih z y' v w h c d (hkid i z hz).1 (hkid i z hz).2 n1 n2) ?_
  rintro r st ⟨b, rfl, hb2, H3, C3, rfl, f3⟩
  simp -dsimp -implicitDefEqProofs only [go_sem, Nat.reduceAdd, Nat.reduceEqDiff, reduceIte, reduceCtorEq, Nat.reduceLeDiff, Nat.reduceLT, Nat.reduceSub, Int.reduceEq, Int.reduceLT]
  exact ⟨b, rfl, ⟨fun e => erN_eq.2 ⟨e1, e2, e3, e6, hb2.1 e⟩, fun e => hb2.2 (erN_eq.1 e).2.2.2.2⟩, _, _, rfl, (HF.trans f2 (by simp)).trans f3 (by simp)⟩
set_option maxHeartbeats 8000000 in
theorem bracketsLaw (s : List UInt8) : Does X 7 [.str s] s0 fun v _ => v = .bool true := by
  refine call_aw b7 rfl rfl rfl ?_; delta b7
  have hS300 : (s.take 300).length ≤ 300 := by simp; omega
  have hcut : 300 ≤ s.length → cutStr none (some (.int .i64 300)) (.str s) = some (.str (s.take 300)) := fun hl => by
    have := cut_hi .i64 300 s
    rw [if_pos hl] at this
    exact this
  have hid : s.length ≤ 300 → s = s.take 300 := fun h => (List.take_of_length_le h).symm
  have same := brackets_same (s.take 300) hS300
  cases hc : decide (((s.length : Nat) : Int) > 300)
  all_goals
    first
      | (have hl : s.length ≤ 300 := by simp at hc; omega
         have hs := hid hl)
      | (have hl : 300 ≤ s.length := by simp at hc; omega
         have hs := hcut hl)
    generalize hS : s.take 300 = S at hS300 same hs
    have n1 : ([100, 111, 32] : List UInt8).length + S.length ≤ 9223372036854775807 := by simp; omega
    have n2 : ([100, 111, 32, 40] : List UInt8).length + S.length ≤ 9223372036854775807 := by simp; omega
    have n3 : ([100, 111, 32, 40] ++ S).length + ([10, 41] : List UInt8).length ≤ 9223372036854775807 := by simp; omega
    obtain ⟨PA, hPA⟩ : ∃ x, x = [100, 111, 32] ++ S := ⟨_, rfl⟩
    obtain ⟨PB, hPB⟩ : ∃ x, x = [100, 111, 32, 40] ++ S ++ [10, 41] := ⟨_, rfl⟩
    rw [← hPA, ← hPB] at same
    have hPA' : (100 :: 111 :: 32 :: S) = PA := hPA.symm
    have hPB' : (100 :: 111 :: 32 :: 40 :: (S ++ [10, 41])) = PB := hPB.symm
    have m1 : 3 + S.length ≤ 9223372036854775807 := by omega
    have m2 : 4 + S.length ≤ 9223372036854775807 := by omega
    have m3 : S.length ≤ 9223372036854775801 := by omega
    have hc2 : decide (((S.length : Nat) : Int) > 300) = false := by simp; omega
    simp -dsimp -implicitDefEqProofs only [go_sem, Nat.reduceAdd, Nat.reduceEqDiff, reduceIte, reduceCtorEq, Nat.reduceLeDiff, Nat.reduceLT, Nat.reduceSub, Int.reduceEq, Int.reduceLT, preH, hc, hc2, hs, hPA', m1, m2, m3, List.cons_append, List.nil_append, List.length_cons, List.length_nil]
    refine DoesK_of (prog_call PA _ _ _) ?_
    rintro v st ⟨nv, rfl, N1, H1, C1, rfl, f1⟩
    obtain ⟨o1, o2, es, rfl, E1⟩ := N1.inv
    have l1 := f1.le
    have Z1 : H1 0 = some (.cells zeroN) := (f1.at (by omega) (by simp)).trans (upd_same _ _ _)
    simp -dsimp -implicitDefEqProofs only [go_sem, Nat.reduceAdd, Nat.reduceEqDiff, reduceIte, reduceCtorEq, Nat.reduceLeDiff, Nat.reduceLT, Nat.reduceSub, Int.reduceEq, Int.reduceLT, preH, OpK_alloc, Z1, zeroN, ldCells, hPB', m1, m2, m3, List.cons_append, List.nil_append, List.length_append, List.length_cons, List.length_nil]
    refine DoesK_of (prog_call PB _ _ _) ?_
    rintro v st ⟨nw, rfl, N2, H2, C2, rfl, f2⟩
    obtain ⟨o3, o4, fs, rfl, E2⟩ := N2.inv
    have l2 := f2.le
    have Z2 := (f2.at (show 0 < C1 + 1 by omega) (by simp)).trans ((upd_ne _ _ (by omega)).trans (upd_same _ _ _))
    have Y2 : H2 C1 = some (.cells zeroN) := (f2.at (by omega) (by simp)).trans (upd_same _ _ _)
    have u1 : ∀ h x, upd h C1 x 0 = h 0 := fun h x => upd_ne h x (by omega)
    cases ha : decide (¬ (progR PA).2.2 = 0)
    · have ha' : (progR PA).2.2 = 0 := by simpa using ha
      cases hb : decide (¬ (progR PB).2.2 = 0)
      · have hb' : (progR PB).2.2 = 0 := by simpa using hb
        simp -dsimp -implicitDefEqProofs only [go_sem, Nat.reduceAdd, Nat.reduceEqDiff, reduceIte, reduceCtorEq, Nat.reduceLeDiff, Nat.reduceLT, Nat.reduceSub, Int.reduceEq, Int.reduceLT, OpK_alloc, Z2, Y2, u1, upd_same, zeroN, ldCells, ha, hb]
        refine DoesK_of (same_call _ _ _ _ _ _ _ _ (Nat.le_refl _) (progR_wd PA) N1 N2) ?_
        rintro r st ⟨b, rfl, hbb, H4, C4, rfl, f4⟩
        have hbt : b = true := hbb.2 (same ha' hb')
        subst hbt
        simp -dsimp -implicitDefEqProofs only [go_sem, Nat.reduceAdd, Nat.reduceEqDiff, reduceIte, reduceCtorEq, Nat.reduceLeDiff, Nat.reduceLT, Nat.reduceSub, Int.reduceEq, Int.reduceLT]
        refine DoesK_of (lives_call _ _ _) ?_
        rintro v st ⟨rfl, h', c', rfl, f⟩
        simp -dsimp -implicitDefEqProofs only [go_sem, Nat.reduceAdd, Nat.reduceEqDiff, reduceIte, reduceCtorEq, Nat.reduceLeDiff, Nat.reduceLT, Nat.reduceSub, Int.reduceEq, Int.reduceLT]
      · simp -dsimp -implicitDefEqProofs only [go_sem, Nat.reduceAdd, Nat.reduceEqDiff, reduceIte, reduceCtorEq, Nat.reduceLeDiff, Nat.reduceLT, Nat.reduceSub, Int.reduceEq, Int.reduceLT, OpK_alloc, Y2, zeroN, ldCells, ha, hb]
        refine DoesK_of (lives_call _ _ _) ?_
        rintro v st ⟨rfl, h', c', rfl, f⟩
        simp -dsimp -implicitDefEqProofs only [go_sem, Nat.reduceAdd, Nat.reduceEqDiff, reduceIte, reduceCtorEq, Nat.reduceLeDiff, Nat.reduceLT, Nat.reduceSub, Int.reduceEq, Int.reduceLT]
    · cases hb : decide (¬ (progR PB).2.2 = 0)
      · simp -dsimp -implicitDefEqProofs only [go_sem, Nat.reduceAdd, Nat.reduceEqDiff, reduceIte, reduceCtorEq, Nat.reduceLeDiff, Nat.reduceLT, Nat.reduceSub, Int.reduceEq, Int.reduceLT, OpK_alloc, Y2, zeroN, ldCells, ha, hb]
        refine DoesK_of (lives_call _ _ _) ?_
        rintro v st ⟨rfl, h', c', rfl, f⟩
        simp -dsimp -implicitDefEqProofs only [go_sem, Nat.reduceAdd, Nat.reduceEqDiff, reduceIte, reduceCtorEq, Nat.reduceLeDiff, Nat.reduceLT, Nat.reduceSub, Int.reduceEq, Int.reduceLT]
      · simp -dsimp -implicitDefEqProofs only [go_sem, Nat.reduceAdd, Nat.reduceEqDiff, reduceIte, reduceCtorEq, Nat.reduceLeDiff, Nat.reduceLT, Nat.reduceSub, Int.reduceEq, Int.reduceLT, OpK_alloc, Y2, zeroN, ldCells, ha, hb]
        refine DoesK_of (lives_call _ _ _) ?_
        rintro v st ⟨rfl, h', c', rfl, f⟩
        simp -dsimp -implicitDefEqProofs only [go_sem, Nat.reduceAdd, Nat.reduceEqDiff, reduceIte, reduceCtorEq, Nat.reduceLeDiff, Nat.reduceLT, Nat.reduceSub, Int.reduceEq, Int.reduceLT]
end Go.Proofs.YtdohdncgjendkaaDoor
