/- ParseLeft: the walk. -/
import Derived.Test.YtdohdncgjendkaaDoorGD
set_option linter.unusedVariables false
set_option linter.unusedSimpArgs false
namespace Go.Proofs.YtdohdncgjendkaaDoor
open Abs Go.RowKit
def sgnL : List (List UInt8) := [[43], [45], [94], [42], [47], [37], [61]]
def looseL : List Int := [1, 1, 1, 2, 2, 2, 0]
def sgn (i : Nat) : List UInt8 := sgnL.getD i []
def loose (i : Nat) : Int := looseL.getD i 0
def srcL (a b : List UInt8) : List UInt8 := [100, 111, 32, 120, 32] ++ a ++ [32, 121, 32] ++ b ++ [32, 122]
def srcM (a : List UInt8) : List UInt8 := [100, 111, 32, 102, 32, 120, 32] ++ a ++ [32, 103, 32, 121]
/-- A node of one kid that has two. -/
def oneTwo (n : Nd) (q : Nd → Nd → Nd → Bool) : Bool := match n.ks with
 | [top] => match top.ks with
  | [l, r] => q top l r
  | _ => false
 | _ => false
def chkL (i j : Nat) : Bool := if i = 6 ∧ j = 6 then decide ((progR (srcL (sgn i) (sgn j))).2.2 = 14) else
 decide ((progR (srcL (sgn i) (sgn j))).2.2 = 0) && oneTwo (progR (srcL (sgn i) (sgn j))).1 fun top l r => if loose i ≥ loose j then decide (top.t = sgn j) && decide (l.t = sgn i) else decide (top.t = sgn i) && decide (r.t = sgn j)
def chkM (k : Nat) : Bool := decide ((progR (srcM (sgn k))).2.2 = 0) && oneTwo (progR (srcM (sgn k))).1 fun top l r => decide (l.k = 7) && decide (r.k = 7)
theorem chkL_all : ((List.range 7).all fun i => (List.range 7).all fun j => chkL i j) = true := by kernel_rfl
theorem chkM_all : ((List.range 6).all fun k => chkM k) = true := by kernel_rfl
theorem oneTwo_inv {n : Nd} {q : Nd → Nd → Nd → Bool} (h : oneTwo n q = true) : ∃ top l r, n.ks = [top] ∧ top.ks = [l, r] ∧ q top l r = true := by
 unfold oneTwo at h
 split at h
 ·rename_i top h1
  split at h
  ·rename_i l r h2
   exact ⟨top, l, r, h1, h2, h⟩
  ·cases h
 ·cases h
theorem chkL_ok {i j : Nat} (hi : i < 7) (hj : j < 7) : chkL i j = true := by
 have := chkL_all
 rw [List.all_eq_true] at this
 have := this i (List.mem_range.2 hi)
 rw [List.all_eq_true] at this
 exact this j (List.mem_range.2 hj)
theorem chkM_ok {k : Nat} (hk : k < 6) : chkM k = true := by
 have := chkM_all
 rw [List.all_eq_true] at this
 exact this k (List.mem_range.2 hk)
theorem sgn_one (i : Nat) (hi : i < 7) : ∃ x, sgn i = [x] := by
 match i, hi with
 | 0, _ | 1, _ | 2, _ | 3, _ | 4, _ | 5, _ | 6, _ => exact ⟨_, rfl⟩
theorem sgn_at {i : Nat} (hi : i < 7) : (sgnL.map AV.str)[i]? = some (.str (sgn i)) := by
 rw [List.getElem?_map, sgn, List.getD_eq_getElem?_getD, List.getElem?_eq_getElem (show i < sgnL.length from hi)]; rfl
theorem loose_at {i : Nat} (hi : i < 7) : (looseL.map (AV.int .i64))[i]? = some (.int .i64 (loose i)) := by
 rw [List.getElem?_map, loose, List.getD_eq_getElem?_getD, List.getElem?_eq_getElem (show i < looseL.length from hi)]; rfl
/-- What a region asks of its words is all that stays. -/
theorem OpsK_env {Y : Ctx} {b' i' : Nat} {m' : List Nat} {ops : List AOper} {lg : List Log} {e : AEnv} {s : ASt} {K : AEnv → ASt → List Log → Prop} {v : Veil ops} {vK : Veil K} (P : AEnv → Prop) (hP : P e) (h : ∀ e', P e' → OpsK Y b' m' ops i' lg e' s K v vK) : OpsK Y b' m' ops i' lg e s K v vK := h e hP
set_option maxHeartbeats 8000000 in
set_option maxRecDepth 100000 in
theorem leftLaw (a b c : Int) (ha : -9223372036854775808 ≤ a ∧ a ≤ 9223372036854775807) (hb : -9223372036854775808 ≤ b ∧ b ≤ 9223372036854775807) (hc : -9223372036854775808 ≤ c ∧ c ≤ 9223372036854775807) :
  Does X 6 [.int .i64 a, .int .i64 b, .int .i64 c] s0 fun v _ => v = .bool true := by
 refine call_aw b6 rfl rfl rfl ?_; delta b6
 have hgp : ∀ e : AEnv, partsV (ev e) 1 [(.val (.str [43])), (.val (.str [45])), (.val (.str [94])), (.val (.str [42])), (.val (.str [47])), (.val (.str [37])), (.val (.str [61]))] = some (sgnL.map AV.str) := fun e => by kernel_rfl
 have hlp : ∀ e : AEnv, partsV (ev e) 1 [(.val (.int .i64 1)), (.val (.int .i64 1)), (.val (.int .i64 1)), (.val (.int .i64 2)), (.val (.int .i64 2)), (.val (.int .i64 2)), (.val (.int .i64 0))] = some (looseL.map (AV.int .i64)) := fun e => by kernel_rfl
 have hga := fun i => @sgn_at i
 have hla := fun i => @loose_at i
 generalize sgnL.map AV.str = GS at hgp hga
 generalize looseL.map (AV.int .i64) = LS at hlp hla
 simp -dsimp -implicitDefEqProofs only [go_sem, Nat.reduceAdd, Nat.reduceEqDiff, reduceIte, reduceCtorEq, Nat.reduceLeDiff, Nat.reduceLT, Nat.reduceSub, Int.reduceEq, Int.reduceLT, hgp, hlp]
 refine DoesK_of (pick_call a 7 (by decide) ha _) ?_
 rintro v st ⟨⟨i, hi, rfl⟩, rfl⟩
 simp -dsimp -implicitDefEqProofs only [go_sem, Nat.reduceAdd, Nat.reduceEqDiff, reduceIte, reduceCtorEq, Nat.reduceLeDiff, Nat.reduceLT, Nat.reduceSub, Int.reduceEq, Int.reduceLT]
 refine DoesK_of (pick_call b 7 (by decide) hb _) ?_
 rintro v st ⟨⟨j, hj, rfl⟩, rfl⟩
 simp -dsimp -implicitDefEqProofs only [go_sem, Nat.reduceAdd, Nat.reduceEqDiff, reduceIte, reduceCtorEq, Nat.reduceLeDiff, Nat.reduceLT, Nat.reduceSub, Int.reduceEq, Int.reduceLT]
 refine DoesK_of (pick_call c 6 (by decide) hc _) ?_
 rintro v st ⟨⟨k, hk, rfl⟩, rfl⟩
 obtain ⟨x, hx⟩ := sgn_one i hi
 obtain ⟨y, hy⟩ := sgn_one j hj
 obtain ⟨z, hz⟩ := sgn_one k (by omega)
 have gi := hga i hi
 have gj := hga j hj
 have gk := hga k (by omega)
 have fi := hla i hi
 have fj := hla j hj
 have kL := chkL_ok hi hj
 have kM := chkM_ok hk
 rw [hx] at gi
 rw [hy] at gj
 rw [hz] at gk
 unfold chkL at kL
 unfold chkM at kM
 obtain ⟨S, hS⟩ : ∃ S, srcL (sgn i) (sgn j) = S := ⟨_, rfl⟩
 obtain ⟨M, hM⟩ : ∃ S, srcM (sgn k) = S := ⟨_, rfl⟩
 rw [hS] at kL
 rw [hM] at kM
 replace hS : [100, 111, 32, 120, 32, x, 32, 121, 32, y, 32, 122] = S := by rw [← hS, hx, hy]; rfl
 replace hM : [100, 111, 32, 102, 32, 120, 32, z, 32, 103, 32, 121] = M := by rw [← hM, hz]; rfl
 obtain ⟨R, hR⟩ : ∃ R, progR S = R := ⟨_, rfl⟩
 obtain ⟨Q, hQ⟩ : ∃ R, progR M = R := ⟨_, rfl⟩
 rw [hR] at kL
 rw [hQ] at kM
 obtain ⟨n, ra, re⟩ := R
 obtain ⟨m, qa, qe⟩ := Q
 simp -dsimp -implicitDefEqProofs only [go_sem, Nat.reduceAdd, Nat.reduceEqDiff, reduceIte, reduceCtorEq, Nat.reduceLeDiff, Nat.reduceLT, Nat.reduceSub, Int.reduceEq, Int.reduceLT, Aw_region1, OpsK_some1, OpsK_none1, OpsK_guard1, maskOf, List.flatMap_cons, List.flatMap_nil, gi, gj, elemA, ldCells, List.cons_append, List.nil_append, List.length_cons, List.length_nil]
 rw [hS]
 refine DoesK_of (prog_is hR _ _ _) ?_
 rintro v st ⟨nv, rfl, N1, H1, C1, rfl, f1⟩
 obtain ⟨o1, o2, es, rfl, E1⟩ := N1.inv
 have l1 := f1.le
 have Z1 : H1 0 = some (.cells zeroN) := (f1.at (by omega) (by simp)).trans (upd_same _ _ _)
 refine OpsK_env (fun e => e.get 7 = .slice .full GS ∧ e.get 8 = .slice .full LS ∧ e.get 9 = .int .i64 (i : Int) ∧ e.get 10 = .int .i64 (j : Int) ∧ e.get 11 = .int .i64 (k : Int) ∧ e.get 41 = .tuple [.agg [.int .i64 n.k, .str n.t, .int .i64 n.n, .int .i64 n.a, .slice o1 (n.ns.map AV.str), .slice o2 es], .int .i64 ra, .int .i64 re]) ⟨rfl, rfl, rfl, rfl, rfl, rfl⟩ ?_
 rintro e0 ⟨g7, g8, g9, g10, g11, g41⟩
 simp -dsimp -implicitDefEqProofs only [go_sem, Nat.reduceAdd, Nat.reduceEqDiff, reduceIte, reduceCtorEq, Nat.reduceLeDiff, Nat.reduceLT, Nat.reduceSub, Int.reduceEq, Int.reduceLT, Aw_region1, OpsK_some1, OpsK_none1, OpsK_guard1, maskOf, List.flatMap_cons, List.flatMap_nil, OpK_alloc, Z1, zeroN, ldCells, g7, g8, g9, g10, g11, g41]
 simp only [List.contains_cons, List.contains_nil, Nat.reduceBEq, Bool.or_false, Bool.or_true, Bool.false_or, Bool.true_or, Bool.false_eq_true, if_true, if_false, opKey, ldKey, ev_tmp, get_cons, Nat.reduceEqDiff, reduceIte, Stable_cons, Stable_nil, List.forall_mem_cons, and_true, true_and]
 refine ⟨by simp [Z1, upd_same, zeroN], ?_⟩
 have i6 : decide ((i : Int) = 6) = decide (i = 6) := by
  by_cases h : i = 6
  ·simp [h]
  ·simp [h]; omega
 have j6 : decide ((j : Int) = 6) = decide (j = 6) := by
  by_cases h : j = 6
  ·simp [h]
  ·simp [h]; omega
 by_cases h66 : i = 6 ∧ j = 6
 ·rw [if_pos h66] at kL
  have ii : decide (i = 6) = true := by simpa using h66.1
  have jj : decide (j = 6) = true := by simpa using h66.2
  have kL' : decide (re = 14) = true := kL
  simp -dsimp -implicitDefEqProofs only [go_sem, Nat.reduceAdd, Nat.reduceEqDiff, reduceIte, reduceCtorEq, Nat.reduceLeDiff, Nat.reduceLT, Nat.reduceSub, Int.reduceEq, Int.reduceLT, g7, g8, g9, g10, g11, i6, j6, ii, jj, kL']
  refine DoesK_of (lives_call _ _ _) ?_
  rintro v st ⟨rfl, h', c', rfl, f⟩
  simp -dsimp -implicitDefEqProofs only [go_sem, Nat.reduceAdd, Nat.reduceEqDiff, reduceIte, reduceCtorEq, Nat.reduceLeDiff, Nat.reduceLT, Nat.reduceSub, Int.reduceEq, Int.reduceLT]
 rw [if_neg h66] at kL
 simp only [Bool.and_eq_true, decide_eq_true_eq] at kL
 obtain ⟨ke, kt⟩ := kL
 subst ke
 obtain ⟨top, l, r, hn, ht, hq⟩ := oneTwo_inv kt
 replace hn : n.ks = [top] := hn
 rw [hn] at E1
 obtain ⟨w1, rfl, M1⟩ := NRs.inv1 E1
 obtain ⟨o3, o4, es2, rfl, E2⟩ := M1.inv
 rw [ht] at E2
 obtain ⟨w2, w3, rfl, M2, M3⟩ := NRs.inv2 E2
 obtain ⟨o5, o6, es3, rfl, E3⟩ := M2.inv
 obtain ⟨o7, o8, es4, rfl, E4⟩ := M3.inv
 have d0 : decide (¬ (0 : Int) = 0) = false := rfl
 have d1 : decide (¬ ((1 : Nat) : Int) = 1) = false := rfl
 have d2 : decide (¬ ((2 : Nat) : Int) = 2) = false := rfl
 have x0 : ∀ (v : AV) (l : List AV), (v :: l)[0]? = some v := fun _ _ => rfl
 have x1 : ∀ (v w : AV) (l : List AV), (v :: w :: l)[1]? = some w := fun _ _ _ => rfl
 have len1 : ∀ v : AV, [v].length = 1 := fun _ => rfl
 have len2 : ∀ v w : AV, [v, w].length = 2 := fun _ _ => rfl
 have b1 : (!true) = false := rfl
 have b2 : (!false) = true := rfl
 have hand : (decide (i = 6) = false) ∨ (decide (i = 6) = true ∧ decide (j = 6) = false) := by
  by_cases h : i = 6
  ·exact .inr ⟨by simpa using h, by simp; exact fun h' => h66 ⟨h, h'⟩⟩
  ·exact .inl (by simpa using h)
 have Zt : upd H1 0 (.cells [.int .i64 n.k, .str n.t, .int .i64 n.n, .int .i64 n.a, .slice o1 (n.ns.map AV.str), .slice o2 [.agg [.int .i64 top.k, .str top.t, .int .i64 top.n, .int .i64 top.a, .slice o3 (top.ns.map AV.str), .slice o4 [.agg [.int .i64 l.k, .str l.t, .int .i64 l.n, .int .i64 l.a, .slice o5 (l.ns.map AV.str), .slice o6 es3], .agg [.int .i64 r.k, .str r.t, .int .i64 r.n, .int .i64 r.a, .slice o7 (r.ns.map AV.str), .slice o8 es4]]]]]) 0 = _ := upd_same _ _ _
 have hand2 : (decide (i = 6) = false ∧ decide (i = 6) = false) ∨ (decide (i = 6) = true ∧ decide (j = 6) = false) := by
  rcases hand with h | h
  ·exact .inl ⟨h, h⟩
  ·exact .inr h
 have u1 : ∀ h x, upd h C1 x 0 = h 0 := fun h x => upd_ne h x (by omega)
 simp only [Bool.and_eq_true, decide_eq_true_eq] at kM
 obtain ⟨me, mt⟩ := kM
 subst me
 obtain ⟨top', l', r', hn', ht', hq'⟩ := oneTwo_inv mt
 replace hn' : m.ks = [top'] := hn'
 simp only [Bool.and_eq_true, decide_eq_true_eq] at hq'
 have k7 : decide (l'.k = 7) = true ∧ decide (r'.k = 7) = true := by simpa using hq'
 have hways : (decide (loose i ≥ loose j) = true ∧ decide (¬ top.t = [y]) = false ∧ decide (¬ l.t = [x]) = false) ∨ (decide (loose i ≥ loose j) = false ∧ decide (¬ top.t = [x]) = false ∧ decide (¬ r.t = [y]) = false) := by
  by_cases hl : loose i ≥ loose j
  ·rw [if_pos hl] at hq
   simp only [Bool.and_eq_true, decide_eq_true_eq] at hq
   exact .inl ⟨by simpa using hl, by rw [hq.1, hy]; simp, by rw [hq.2, hx]; simp⟩
  ·rw [if_neg hl] at hq
   simp only [Bool.and_eq_true, decide_eq_true_eq] at hq
   exact .inr ⟨by simpa using hl, by rw [hq.1, hx]; simp, by rw [hq.2, hy]; simp⟩
 rcases hand2 with HH | HH
 all_goals
  rcases hways with HW | HW
  all_goals
   simp -dsimp -implicitDefEqProofs only [go_sem, Nat.reduceAdd, Nat.reduceEqDiff, reduceIte, reduceCtorEq, Nat.reduceLeDiff, Nat.reduceLT, Nat.reduceSub, Int.reduceEq, Int.reduceLT, preH, OpK_alloc, g7, g8, g9, g10, g11, i6, j6, HH, d0, d1, d2, x0, x1, len1, len2, b1, b2, Zt, u1, upd_same, ldCells, elemA, idx_slice_0, idx_slice_1, gi, gj, gk, fi, fj, HW, List.cons_append, List.nil_append, List.length_cons, List.length_nil, hM]
   refine DoesK_of (prog_is hQ _ _ _) ?_
   rintro v st ⟨nv2, rfl, N2, H2, C2, rfl, f2⟩
   obtain ⟨s1, s2, fs, rfl, G1⟩ := N2.inv
   rw [hn'] at G1
   obtain ⟨z1, rfl, K1⟩ := NRs.inv1 G1
   obtain ⟨s3, s4, fs2, rfl, G2⟩ := K1.inv
   rw [ht'] at G2
   obtain ⟨z2, z3, rfl, K2, K3⟩ := NRs.inv2 G2
   obtain ⟨s5, s6, fs3, rfl, G3⟩ := K2.inv
   obtain ⟨s7, s8, fs4, rfl, G4⟩ := K3.inv
   have l2 := f2.le
   have Y2 : H2 (C1 + 1) = some (.cells zeroN) := (f2.at (by omega) (by simp)).trans (upd_same _ _ _)
   refine OpsK_env (fun e => e.get 138 = .tuple [.agg [.int .i64 m.k, .str m.t, .int .i64 m.n, .int .i64 m.a, .slice s1 (m.ns.map AV.str), .slice s2 [.agg [.int .i64 top'.k, .str top'.t, .int .i64 top'.n, .int .i64 top'.a, .slice s3 (top'.ns.map AV.str), .slice s4 [.agg [.int .i64 l'.k, .str l'.t, .int .i64 l'.n, .int .i64 l'.a, .slice s5 (l'.ns.map AV.str), .slice s6 fs3], .agg [.int .i64 r'.k, .str r'.t, .int .i64 r'.n, .int .i64 r'.a, .slice s7 (r'.ns.map AV.str), .slice s8 fs4]]]]], .int .i64 qa, .int .i64 0]) rfl ?_
   rintro e1 g138
   simp -dsimp -implicitDefEqProofs only [go_sem, Nat.reduceAdd, Nat.reduceEqDiff, reduceIte, reduceCtorEq, Nat.reduceLeDiff, Nat.reduceLT, Nat.reduceSub, Int.reduceEq, Int.reduceLT, OpK_alloc, g138, Y2, zeroN, ldCells, d0, d1, d2, x0, x1, len1, len2, b1, b2, upd_same, elemA, idx_slice_0, idx_slice_1, k7]
   refine DoesK_of (lives_call _ _ _) ?_
   rintro v st ⟨rfl, h', c', rfl, f⟩
   simp -dsimp -implicitDefEqProofs only [go_sem, Nat.reduceAdd, Nat.reduceEqDiff, reduceIte, reduceCtorEq, Nat.reduceLeDiff, Nat.reduceLT, Nat.reduceSub, Int.reduceEq, Int.reduceLT]
end Go.Proofs.YtdohdncgjendkaaDoor
