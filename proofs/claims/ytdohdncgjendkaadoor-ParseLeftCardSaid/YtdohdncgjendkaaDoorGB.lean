/- The parser's functions: comparisons. The parser's functions: a pattern without anything behind it. The parser's functions: an atom. Rows of nodes that grow: a node's kids, held in a local's cells. The parser's functions: what is called. The parser's functions: what is called, the rest. The parser's functions: try. The parser's functions: match. -/
import Derived.Test.YtdohdncgjendkaaDoorGA
set_option linter.unusedVariables false
set_option linter.unusedSimpArgs false
namespace Go.Proofs.YtdohdncgjendkaaDoor
open Abs Go.RowKit
section
variable {T : List Tok} {p : Nat} {o : Own}
set_option maxHeartbeats 8000000 in
theorem cmp_reads {f : Nat} (hs : ReadsA T p o 68 [signsV false] (run T f (.sums false))) : Reads T p o 54 (run T (f + 1) .cmp) := by
 intro s n s' hi hr
 rw [run_cmp] at hr
 split at hr
 case h_2 => cases hr
 rename_i n1 s1 g1
 obtain ⟨⟨d1, I1⟩, c1⟩ := hs _ _ _ hi g1
 have hR : s'.deep = s.deep ∧ Inv T s' := by
  split at hr
  ·dsimp only at hr
   split at hr
   case h_2 => cases hr
   rename_i n2 s2 g2
   injection hr with hr; injection hr with r1 r2
   obtain ⟨⟨d2, I2⟩, _⟩ := hs _ _ _ I1.take g2
   rw [← r2]
   exact ⟨by rw [d2, take_deep, d1], I2⟩
  ·injection hr with hr; injection hr with r1 r2
   rw [← r2]; exact ⟨d1, I1⟩
 refine ⟨hR, fun h c d hp hpc => ?_⟩
 clear hR
 have hsg : signsV false = .slice .full [.str [43], .str [45], .str [94]] := rfl
 rw [hsg] at c1
 refine call_aw b54 rfl rfl rfl ?_; delta b54
 have u1_0 : ∀ h x, upd h (c) x (p) = h (p) := fun h x => upd_ne h x (by omega)
 have u0_1 : ∀ h x, upd h (p) x (c) = h (c) := fun h x => upd_ne h x (by omega)
 have u2_0 : ∀ h x, upd h (c + 1) x (p) = h (p) := fun h x => upd_ne h x (by omega)
 have u0_2 : ∀ h x, upd h (p) x (c + 1) = h (c + 1) := fun h x => upd_ne h x (by omega)
 have u2_1 : ∀ h x, upd h (c + 1) x (c) = h (c) := fun h x => upd_ne h x (by omega)
 have u1_2 : ∀ h x, upd h (c) x (c + 1) = h (c + 1) := fun h x => upd_ne h x (by omega)
 have U0 : _ ∧ _ ∧ _ ∧ _ ∧ _ ∧ _ := ⟨u0_1, u0_2, u1_0, u1_2, u2_0, u2_1⟩
 simp -dsimp -implicitDefEqProofs only [go_sem, Nat.reduceAdd, Nat.reduceEqDiff, reduceIte, reduceCtorEq, Nat.reduceLeDiff, Nat.reduceLT, Nat.reduceSub, Int.reduceEq, Int.reduceLT, preH, OpK_alloc, ldCells, fillV, zeroN, zeroT, pcell, U0, hp, partsV]
 refine DoesK_of (c1 _ _ _ (by first | exact hp | (simp only [U0, upd_same, hp]; done) | (simp only [U0, upd_same, hp]; rfl) | rfl) (by omega)) ?_
 rintro v st ⟨N1, H1, C1, rfl, f1, P1⟩
 have F1 : Fr h c H1 C1 [p] := by
  refine Fr.trans ?_ f1 (by simp)
  refine Fr.more (c1 := c) ?_ (by omega)
  repeat (first | exact (Fr.refl h c [p]) | refine Fr.upd (c1 := c) ?_ _ (by first | (right; omega) | (left; simp; done)) (Nat.le_refl _))
 have L1 := F1.le
 have M1 := f1.le
 have Z1_1 : H1 (c) = some (.cells zeroN) := (f1.at (by omega) (by simp; omega)).trans (by first | (simp only [U0, upd_same]; done) | rfl | (simp only [U0, upd_same]; rfl))
 have Z1_2 : H1 (c + 1) = some (.cells zeroN) := (f1.at (by omega) (by simp; omega)).trans (by first | (simp only [U0, upd_same]; done) | rfl | (simp only [U0, upd_same]; rfl))
 obtain ⟨o1a, o1b, es1, rfl, E1⟩ := N1.inv
 have u3_0 : ∀ h x, upd h (C1) x (p) = h (p) := fun h x => upd_ne h x (by omega)
 have u0_3 : ∀ h x, upd h (p) x (C1) = h (C1) := fun h x => upd_ne h x (by omega)
 have u3_1 : ∀ h x, upd h (C1) x (c) = h (c) := fun h x => upd_ne h x (by omega)
 have u1_3 : ∀ h x, upd h (c) x (C1) = h (C1) := fun h x => upd_ne h x (by omega)
 have u3_2 : ∀ h x, upd h (C1) x (c + 1) = h (c + 1) := fun h x => upd_ne h x (by omega)
 have u2_3 : ∀ h x, upd h (c + 1) x (C1) = h (C1) := fun h x => upd_ne h x (by omega)
 have U1 : _ ∧ _ ∧ _ ∧ _ ∧ _ ∧ _ ∧ _ ∧ _ ∧ _ ∧ _ ∧ _ ∧ _ := ⟨u0_1, u0_2, u0_3, u1_0, u1_2, u1_3, u2_0, u2_1, u2_3, u3_0, u3_1, u3_2⟩
 simp -dsimp -implicitDefEqProofs only [go_sem, Nat.reduceAdd, Nat.reduceEqDiff, reduceIte, reduceCtorEq, Nat.reduceLeDiff, Nat.reduceLT, Nat.reduceSub, Int.reduceEq, Int.reduceLT, preH, OpK_alloc, ldCells, fillV, zeroN, zeroT, pcell, U1, P1, Z1_1, Z1_2]
 refine DoesK_of (look_call (o := o) (p := p) I1 (by first | exact P1 | (simp only [U1, upd_same, P1]; done) | (simp only [U1, upd_same, P1]; rfl) | rfl) (by omega)) ?_
 rintro v st ⟨rfl, H2, C2, rfl, f2, P2⟩
 have F2 : Fr h c H2 C2 [p] := by
  refine Fr.trans ?_ f2 (by simp)
  refine Fr.more (c1 := C1) ?_ (by omega)
  repeat (first | exact F1 | refine Fr.upd (c1 := C1) ?_ _ (by first | (right; omega) | (left; simp; done)) (Nat.le_refl _))
 have L2 := F2.le
 have M2 := f2.le
 have Z2_1 : H2 (c) = some (.cells zeroN) := (f2.at (by omega) (by simp; omega)).trans (by first | (simp only [U1, upd_same, Z1_1]; done) | rfl | (simp only [U1, upd_same, Z1_1]; rfl))
 have Z2_2 : H2 (c + 1) = some (.cells [.int .i64 n1.k, .str n1.t, .int .i64 n1.n, .int .i64 n1.a, .slice o1a (n1.ns.map AV.str), .slice o1b es1]) := (f2.at (by omega) (by simp; omega)).trans (by first | (simp only [U1, upd_same]; done) | rfl | (simp only [U1, upd_same]; rfl))
 have Z2_3 : H2 (C1) = some (.cells zeroT) := (f2.at (by omega) (by simp; omega)).trans (by first | (simp only [U1, upd_same]; done) | rfl | (simp only [U1, upd_same]; rfl))
 simp -dsimp -implicitDefEqProofs only [go_sem, Nat.reduceAdd, Nat.reduceEqDiff, reduceIte, reduceCtorEq, Nat.reduceLeDiff, Nat.reduceLT, Nat.reduceSub, Int.reduceEq, Int.reduceLT, preH, OpK_alloc, ldCells, fillV, zeroN, zeroT, pcell, U1, P2, Z2_1, Z2_2, Z2_3, tkV, tokC]
 refine DoesK_of (isw_call (o := o) (p := p) I1 (by first | exact P2 | (simp only [U1, upd_same, P2]; done) | (simp only [U1, upd_same, P2]; rfl) | rfl) (by omega) [61]) ?_
 rintro v st ⟨rfl, H3, C3, rfl, f3, P3⟩
 have F3 : Fr h c H3 C3 [p] := by
  refine Fr.trans ?_ f3 (by simp)
  refine Fr.more (c1 := C2) ?_ (by omega)
  repeat (first | exact F2 | refine Fr.upd (c1 := C2) ?_ _ (by first | (right; omega) | (left; simp; done)) (Nat.le_refl _))
 have L3 := F3.le
 have M3 := f3.le
 have Z3_1 : H3 (c) = some (.cells zeroN) := (f3.at (by omega) (by simp; omega)).trans (by first | (simp only [U1, upd_same, Z2_1]; done) | rfl | (simp only [U1, upd_same, Z2_1]; rfl))
 have Z3_2 : H3 (c + 1) = some (.cells [.int .i64 n1.k, .str n1.t, .int .i64 n1.n, .int .i64 n1.a, .slice o1a (n1.ns.map AV.str), .slice o1b es1]) := (f3.at (by omega) (by simp; omega)).trans (by first | (simp only [U1, upd_same, Z2_2]; done) | rfl | (simp only [U1, upd_same, Z2_2]; rfl))
 have Z3_3 : H3 (C1) = some (.cells [.int .i64 (look T s1).1.k, .str (look T s1).1.t, .int .i64 (look T s1).1.n, .int .i64 ((look T s1).2 : Int)]) := (f3.at (by omega) (by simp; omega)).trans (by first | (simp only [U1, upd_same]; done) | rfl | (simp only [U1, upd_same]; rfl))
 cases q1 : isW T [61] s1
 ·rw [q1] at hr
  simp -dsimp -implicitDefEqProofs only [go_sem, Nat.reduceAdd, Nat.reduceEqDiff, reduceIte, reduceCtorEq, Nat.reduceLeDiff, Nat.reduceLT, Nat.reduceSub, Int.reduceEq, Int.reduceLT, preH, OpK_alloc, ldCells, fillV, zeroN, zeroT, pcell, U1, P3, Z3_1, Z3_2, Z3_3]
  refine DoesK_of (isw_call (o := o) (p := p) I1 (by first | exact P3 | (simp only [U1, upd_same, P3]; done) | (simp only [U1, upd_same, P3]; rfl) | rfl) (by omega) [60]) ?_
  rintro v st ⟨rfl, H4, C4, rfl, f4, P4⟩
  have F4 : Fr h c H4 C4 [p] := by
   refine Fr.trans ?_ f4 (by simp)
   refine Fr.more (c1 := C3) ?_ (by omega)
   repeat (first | exact F3 | refine Fr.upd (c1 := C3) ?_ _ (by first | (right; omega) | (left; simp; done)) (Nat.le_refl _))
  have L4 := F4.le
  have M4 := f4.le
  have Z4_1 : H4 (c) = some (.cells zeroN) := (f4.at (by omega) (by simp; omega)).trans (by first | (simp only [U1, upd_same, Z3_1]; done) | rfl | (simp only [U1, upd_same, Z3_1]; rfl))
  have Z4_2 : H4 (c + 1) = some (.cells [.int .i64 n1.k, .str n1.t, .int .i64 n1.n, .int .i64 n1.a, .slice o1a (n1.ns.map AV.str), .slice o1b es1]) := (f4.at (by omega) (by simp; omega)).trans (by first | (simp only [U1, upd_same, Z3_2]; done) | rfl | (simp only [U1, upd_same, Z3_2]; rfl))
  have Z4_3 : H4 (C1) = some (.cells [.int .i64 (look T s1).1.k, .str (look T s1).1.t, .int .i64 (look T s1).1.n, .int .i64 ((look T s1).2 : Int)]) := (f4.at (by omega) (by simp; omega)).trans (by first | (simp only [U1, upd_same, Z3_3]; done) | rfl | (simp only [U1, upd_same, Z3_3]; rfl))
  cases q2 : isW T [60] s1
  ·rw [q2] at hr
   rw [if_neg (by simp)] at hr
   injection hr with hr; injection hr with r1 r2
   subst r1; subst r2
   simp -dsimp -implicitDefEqProofs only [go_sem, Nat.reduceAdd, Nat.reduceEqDiff, reduceIte, reduceCtorEq, Nat.reduceLeDiff, Nat.reduceLT, Nat.reduceSub, Int.reduceEq, Int.reduceLT, preH, OpK_alloc, ldCells, fillV, zeroN, zeroT, pcell, U1, P4, Z4_1, Z4_2, Z4_3]
   exact ⟨N1, _, _, rfl, (by
     refine Fr.more (c1 := C4) ?_ (by omega)
     repeat (first | exact F4 | refine Fr.upd (c1 := C4) ?_ _ (by first | (right; omega) | (left; simp; done)) (Nat.le_refl _))), (by first | exact P4 | (simp only [U1, upd_same, P4]; done) | (simp only [U1, upd_same, P4]; rfl) | rfl)⟩
  ·rw [q2] at hr
   rw [if_pos (by simp)] at hr
   dsimp only at hr
   split at hr
   case h_2 => cases hr
   rename_i n2 s2 g2
   injection hr with hr; injection hr with r1 r2
   subst r1; subst r2
   obtain ⟨⟨d2, I2⟩, c2⟩ := hs _ _ _ I1.take g2
   rw [hsg] at c2
   simp -dsimp -implicitDefEqProofs only [go_sem, Nat.reduceAdd, Nat.reduceEqDiff, reduceIte, reduceCtorEq, Nat.reduceLeDiff, Nat.reduceLT, Nat.reduceSub, Int.reduceEq, Int.reduceLT, preH, OpK_alloc, ldCells, fillV, zeroN, zeroT, pcell, U1, P4, Z4_1, Z4_2, Z4_3]
   refine DoesK_of (take_call (o := o) (p := p) I1 (by first | exact P4 | (simp only [U1, upd_same, P4]; done) | (simp only [U1, upd_same, P4]; rfl) | rfl) (by omega)) ?_
   rintro v st ⟨rfl, H5, C5, rfl, f5, P5⟩
   have F5 : Fr h c H5 C5 [p] := by
    refine Fr.trans ?_ f5 (by simp)
    refine Fr.more (c1 := C4) ?_ (by omega)
    repeat (first | exact F4 | refine Fr.upd (c1 := C4) ?_ _ (by first | (right; omega) | (left; simp; done)) (Nat.le_refl _))
   have L5 := F5.le
   have M5 := f5.le
   have Z5_1 : H5 (c) = some (.cells zeroN) := (f5.at (by omega) (by simp; omega)).trans (by first | (simp only [U1, upd_same, Z4_1]; done) | rfl | (simp only [U1, upd_same, Z4_1]; rfl))
   have Z5_2 : H5 (c + 1) = some (.cells [.int .i64 n1.k, .str n1.t, .int .i64 n1.n, .int .i64 n1.a, .slice o1a (n1.ns.map AV.str), .slice o1b es1]) := (f5.at (by omega) (by simp; omega)).trans (by first | (simp only [U1, upd_same, Z4_2]; done) | rfl | (simp only [U1, upd_same, Z4_2]; rfl))
   have Z5_3 : H5 (C1) = some (.cells [.int .i64 (look T s1).1.k, .str (look T s1).1.t, .int .i64 (look T s1).1.n, .int .i64 ((look T s1).2 : Int)]) := (f5.at (by omega) (by simp; omega)).trans (by first | (simp only [U1, upd_same, Z4_3]; done) | rfl | (simp only [U1, upd_same, Z4_3]; rfl))
   simp -dsimp -implicitDefEqProofs only [go_sem, Nat.reduceAdd, Nat.reduceEqDiff, reduceIte, reduceCtorEq, Nat.reduceLeDiff, Nat.reduceLT, Nat.reduceSub, Int.reduceEq, Int.reduceLT, preH, OpK_alloc, ldCells, fillV, zeroN, zeroT, pcell, U1, P5, Z5_1, Z5_2, Z5_3, Aw_region1, OpsK_some1, OpsK_none1, OpsK_guard1, maskOf, List.flatMap_cons, List.flatMap_nil, partsV]
   refine DoesK_of (c2 _ _ _ (by first | exact P5 | (simp only [U1, upd_same, P5]; done) | (simp only [U1, upd_same, P5]; rfl) | rfl) (by omega)) ?_
   rintro v st ⟨N6, H6, C6, rfl, f6, P6⟩
   have F6 : Fr h c H6 C6 [p] := by
    refine Fr.trans ?_ f6 (by simp)
    refine Fr.more (c1 := C5) ?_ (by omega)
    repeat (first | exact F5 | refine Fr.upd (c1 := C5) ?_ _ (by first | (right; omega) | (left; simp; done)) (Nat.le_refl _))
   have L6 := F6.le
   have M6 := f6.le
   have Z6_1 : H6 (c) = some (.cells zeroN) := (f6.at (by omega) (by simp; omega)).trans (by first | (simp only [U1, upd_same, Z5_1]; done) | rfl | (simp only [U1, upd_same, Z5_1]; rfl))
   have Z6_2 : H6 (c + 1) = some (.cells [.int .i64 n1.k, .str n1.t, .int .i64 n1.n, .int .i64 n1.a, .slice o1a (n1.ns.map AV.str), .slice o1b es1]) := (f6.at (by omega) (by simp; omega)).trans (by first | (simp only [U1, upd_same, Z5_2]; done) | rfl | (simp only [U1, upd_same, Z5_2]; rfl))
   have Z6_3 : H6 (C1) = some (.cells [.int .i64 (look T s1).1.k, .str (look T s1).1.t, .int .i64 (look T s1).1.n, .int .i64 ((look T s1).2 : Int)]) := (f6.at (by omega) (by simp; omega)).trans (by first | (simp only [U1, upd_same, Z5_3]; done) | rfl | (simp only [U1, upd_same, Z5_3]; rfl))
   obtain ⟨o6a, o6b, es6, rfl, E6⟩ := N6.inv
   simp -dsimp -implicitDefEqProofs only [go_sem, Nat.reduceAdd, Nat.reduceEqDiff, reduceIte, reduceCtorEq, Nat.reduceLeDiff, Nat.reduceLT, Nat.reduceSub, Int.reduceEq, Int.reduceLT, preH, OpK_alloc, ldCells, fillV, zeroN, zeroT, pcell, U1, P6, Z6_1, Z6_2, Z6_3, Aw_region1, OpsK_some1, OpsK_none1, OpsK_guard1, maskOf, List.flatMap_cons, List.flatMap_nil, partsV]
   refine DoesK_of (node_call 13 _ _ .full _ _ _ _) ?_
   rintro v st ⟨rfl, H7, C7, rfl, f7⟩
   have F7 : Fr h c H7 C7 [p] := by
    refine Fr.trans ?_ f7 (by simp)
    refine Fr.more (c1 := C6) ?_ (by omega)
    repeat (first | exact F6 | refine Fr.upd (c1 := C6) ?_ _ (by first | (right; omega) | (left; simp; done)) (Nat.le_refl _))
   have L7 := F7.le
   have M7 := f7.le
   have P7 : H7 p = _ := (f7.at (by omega) (by simp)).trans (by first | exact P6 | (simp only [U1, upd_same, P6]; rfl))
   have Z7_1 : H7 (c) = some (.cells zeroN) := (f7.at (by omega) (by simp)).trans (by first | (simp only [U1, upd_same, Z6_1]; done) | rfl | (simp only [U1, upd_same, Z6_1]; rfl))
   have Z7_2 : H7 (c + 1) = some (.cells [.int .i64 n1.k, .str n1.t, .int .i64 n1.n, .int .i64 n1.a, .slice o1a (n1.ns.map AV.str), .slice o1b es1]) := (f7.at (by omega) (by simp)).trans (by first | (simp only [U1, upd_same, Z6_2]; done) | rfl | (simp only [U1, upd_same, Z6_2]; rfl))
   have Z7_3 : H7 (C1) = some (.cells [.int .i64 (look T s1).1.k, .str (look T s1).1.t, .int .i64 (look T s1).1.n, .int .i64 ((look T s1).2 : Int)]) := (f7.at (by omega) (by simp)).trans (by first | (simp only [U1, upd_same, Z6_3]; done) | rfl | (simp only [U1, upd_same, Z6_3]; rfl))
   simp -dsimp -implicitDefEqProofs only [go_sem, Nat.reduceAdd, Nat.reduceEqDiff, reduceIte, reduceCtorEq, Nat.reduceLeDiff, Nat.reduceLT, Nat.reduceSub, Int.reduceEq, Int.reduceLT, preH, OpK_alloc, ldCells, fillV, zeroN, zeroT, pcell, U1, P7, Z7_1, Z7_2, Z7_3, Aw_region1, OpsK_some1, OpsK_none1, OpsK_guard1, maskOf, List.flatMap_cons, List.flatMap_nil]
   simp only [List.contains_cons, List.contains_nil, Nat.reduceBEq, Bool.or_false, Bool.or_true, Bool.false_or, Bool.true_or, Bool.false_eq_true, if_true, if_false, opKey, ldKey, ev_tmp, get_cons, Nat.reduceEqDiff, reduceIte, Stable_cons, Stable_nil, List.forall_mem_cons, and_true, true_and]
   refine ⟨by simp [Z5_2, Z5_3, Z6_2, Z6_3], ?_⟩
   exact ⟨.mk rfl ((NRs.one N1).app (NRs.one N6)).2, _, _, rfl, (by
     refine Fr.more (c1 := C7) ?_ (by omega)
     repeat (first | exact F7 | refine Fr.upd (c1 := C7) ?_ _ (by first | (right; omega) | (left; simp; done)) (Nat.le_refl _))), (by first | exact P7 | (simp only [U1, upd_same, P7]; done) | (simp only [U1, upd_same, P7]; rfl) | rfl)⟩
 ·rw [q1] at hr
  rw [if_pos (by simp)] at hr
  dsimp only at hr
  split at hr
  case h_2 => cases hr
  rename_i n2 s2 g2
  injection hr with hr; injection hr with r1 r2
  subst r1; subst r2
  obtain ⟨⟨d2, I2⟩, c2⟩ := hs _ _ _ I1.take g2
  rw [hsg] at c2
  simp -dsimp -implicitDefEqProofs only [go_sem, Nat.reduceAdd, Nat.reduceEqDiff, reduceIte, reduceCtorEq, Nat.reduceLeDiff, Nat.reduceLT, Nat.reduceSub, Int.reduceEq, Int.reduceLT, preH, OpK_alloc, ldCells, fillV, zeroN, zeroT, pcell, U1, P3, Z3_1, Z3_2, Z3_3]
  refine DoesK_of (take_call (o := o) (p := p) I1 (by first | exact P3 | (simp only [U1, upd_same, P3]; done) | (simp only [U1, upd_same, P3]; rfl) | rfl) (by omega)) ?_
  rintro v st ⟨rfl, H4, C4, rfl, f4, P4⟩
  have F4 : Fr h c H4 C4 [p] := by
   refine Fr.trans ?_ f4 (by simp)
   refine Fr.more (c1 := C3) ?_ (by omega)
   repeat (first | exact F3 | refine Fr.upd (c1 := C3) ?_ _ (by first | (right; omega) | (left; simp; done)) (Nat.le_refl _))
  have L4 := F4.le
  have M4 := f4.le
  have Z4_1 : H4 (c) = some (.cells zeroN) := (f4.at (by omega) (by simp; omega)).trans (by first | (simp only [U1, upd_same, Z3_1]; done) | rfl | (simp only [U1, upd_same, Z3_1]; rfl))
  have Z4_2 : H4 (c + 1) = some (.cells [.int .i64 n1.k, .str n1.t, .int .i64 n1.n, .int .i64 n1.a, .slice o1a (n1.ns.map AV.str), .slice o1b es1]) := (f4.at (by omega) (by simp; omega)).trans (by first | (simp only [U1, upd_same, Z3_2]; done) | rfl | (simp only [U1, upd_same, Z3_2]; rfl))
  have Z4_3 : H4 (C1) = some (.cells [.int .i64 (look T s1).1.k, .str (look T s1).1.t, .int .i64 (look T s1).1.n, .int .i64 ((look T s1).2 : Int)]) := (f4.at (by omega) (by simp; omega)).trans (by first | (simp only [U1, upd_same, Z3_3]; done) | rfl | (simp only [U1, upd_same, Z3_3]; rfl))
  simp -dsimp -implicitDefEqProofs only [go_sem, Nat.reduceAdd, Nat.reduceEqDiff, reduceIte, reduceCtorEq, Nat.reduceLeDiff, Nat.reduceLT, Nat.reduceSub, Int.reduceEq, Int.reduceLT, preH, OpK_alloc, ldCells, fillV, zeroN, zeroT, pcell, U1, P4, Z4_1, Z4_2, Z4_3, Aw_region1, OpsK_some1, OpsK_none1, OpsK_guard1, maskOf, List.flatMap_cons, List.flatMap_nil, partsV]
  refine DoesK_of (c2 _ _ _ (by first | exact P4 | (simp only [U1, upd_same, P4]; done) | (simp only [U1, upd_same, P4]; rfl) | rfl) (by omega)) ?_
  rintro v st ⟨N5, H5, C5, rfl, f5, P5⟩
  have F5 : Fr h c H5 C5 [p] := by
   refine Fr.trans ?_ f5 (by simp)
   refine Fr.more (c1 := C4) ?_ (by omega)
   repeat (first | exact F4 | refine Fr.upd (c1 := C4) ?_ _ (by first | (right; omega) | (left; simp; done)) (Nat.le_refl _))
  have L5 := F5.le
  have M5 := f5.le
  have Z5_1 : H5 (c) = some (.cells zeroN) := (f5.at (by omega) (by simp; omega)).trans (by first | (simp only [U1, upd_same, Z4_1]; done) | rfl | (simp only [U1, upd_same, Z4_1]; rfl))
  have Z5_2 : H5 (c + 1) = some (.cells [.int .i64 n1.k, .str n1.t, .int .i64 n1.n, .int .i64 n1.a, .slice o1a (n1.ns.map AV.str), .slice o1b es1]) := (f5.at (by omega) (by simp; omega)).trans (by first | (simp only [U1, upd_same, Z4_2]; done) | rfl | (simp only [U1, upd_same, Z4_2]; rfl))
  have Z5_3 : H5 (C1) = some (.cells [.int .i64 (look T s1).1.k, .str (look T s1).1.t, .int .i64 (look T s1).1.n, .int .i64 ((look T s1).2 : Int)]) := (f5.at (by omega) (by simp; omega)).trans (by first | (simp only [U1, upd_same, Z4_3]; done) | rfl | (simp only [U1, upd_same, Z4_3]; rfl))
  obtain ⟨o5a, o5b, es5, rfl, E5⟩ := N5.inv
  simp -dsimp -implicitDefEqProofs only [go_sem, Nat.reduceAdd, Nat.reduceEqDiff, reduceIte, reduceCtorEq, Nat.reduceLeDiff, Nat.reduceLT, Nat.reduceSub, Int.reduceEq, Int.reduceLT, preH, OpK_alloc, ldCells, fillV, zeroN, zeroT, pcell, U1, P5, Z5_1, Z5_2, Z5_3, Aw_region1, OpsK_some1, OpsK_none1, OpsK_guard1, maskOf, List.flatMap_cons, List.flatMap_nil, partsV]
  refine DoesK_of (node_call 13 _ _ .full _ _ _ _) ?_
  rintro v st ⟨rfl, H6, C6, rfl, f6⟩
  have F6 : Fr h c H6 C6 [p] := by
   refine Fr.trans ?_ f6 (by simp)
   refine Fr.more (c1 := C5) ?_ (by omega)
   repeat (first | exact F5 | refine Fr.upd (c1 := C5) ?_ _ (by first | (right; omega) | (left; simp; done)) (Nat.le_refl _))
  have L6 := F6.le
  have M6 := f6.le
  have P6 : H6 p = _ := (f6.at (by omega) (by simp)).trans (by first | exact P5 | (simp only [U1, upd_same, P5]; rfl))
  have Z6_1 : H6 (c) = some (.cells zeroN) := (f6.at (by omega) (by simp)).trans (by first | (simp only [U1, upd_same, Z5_1]; done) | rfl | (simp only [U1, upd_same, Z5_1]; rfl))
  have Z6_2 : H6 (c + 1) = some (.cells [.int .i64 n1.k, .str n1.t, .int .i64 n1.n, .int .i64 n1.a, .slice o1a (n1.ns.map AV.str), .slice o1b es1]) := (f6.at (by omega) (by simp)).trans (by first | (simp only [U1, upd_same, Z5_2]; done) | rfl | (simp only [U1, upd_same, Z5_2]; rfl))
  have Z6_3 : H6 (C1) = some (.cells [.int .i64 (look T s1).1.k, .str (look T s1).1.t, .int .i64 (look T s1).1.n, .int .i64 ((look T s1).2 : Int)]) := (f6.at (by omega) (by simp)).trans (by first | (simp only [U1, upd_same, Z5_3]; done) | rfl | (simp only [U1, upd_same, Z5_3]; rfl))
  simp -dsimp -implicitDefEqProofs only [go_sem, Nat.reduceAdd, Nat.reduceEqDiff, reduceIte, reduceCtorEq, Nat.reduceLeDiff, Nat.reduceLT, Nat.reduceSub, Int.reduceEq, Int.reduceLT, preH, OpK_alloc, ldCells, fillV, zeroN, zeroT, pcell, U1, P6, Z6_1, Z6_2, Z6_3, Aw_region1, OpsK_some1, OpsK_none1, OpsK_guard1, maskOf, List.flatMap_cons, List.flatMap_nil]
  simp only [List.contains_cons, List.contains_nil, Nat.reduceBEq, Bool.or_false, Bool.or_true, Bool.false_or, Bool.true_or, Bool.false_eq_true, if_true, if_false, opKey, ldKey, ev_tmp, get_cons, Nat.reduceEqDiff, reduceIte, Stable_cons, Stable_nil, List.forall_mem_cons, and_true, true_and]
  refine ⟨by simp [Z4_2, Z4_3, Z5_2, Z5_3], ?_⟩
  exact ⟨.mk rfl ((NRs.one N1).app (NRs.one N5)).2, _, _, rfl, (by
    refine Fr.more (c1 := C6) ?_ (by omega)
    repeat (first | exact F6 | refine Fr.upd (c1 := C6) ?_ _ (by first | (right; omega) | (left; simp; done)) (Nat.le_refl _))), (by first | exact P6 | (simp only [U1, upd_same, P6]; done) | (simp only [U1, upd_same, P6]; rfl) | rfl)⟩
end
theorem may_no {T : List Tok} {w : List UInt8} {s : PS} (h : isW T w s = false) : mayS T w s = s := by rw [mayS, if_neg (by simp [h])]
section
variable {T : List Tok} {p : Nat} {o : Own}
theorem leaf_deep (f : Int → Int) (s : PS) : (leaf T f s).2.deep = s.deep := by unfold leaf; split <;> simp [fail_deep, take_deep]
theorem Inv.leaf {s : PS} (hi : Inv T s) (f : Int → Int) : Inv T (leaf T f s).2 := by
 unfold Go.Proofs.YtdohdncgjendkaaDoor.leaf
 split
 ·exact hi.fail _
 ·exact hi.take
theorem pat_table (x : Int) : keyed (.one .int) (.int .i64 x) (lookV (.one .int) (.int .i64 0) false (.int .i64 x) [(.int .i64 1, .int .i64 1, 0), (.int .i64 3, .int .i64 4, 1), (.int .i64 4, .int .i64 5, 2)]) = some (.int .i64 (patK x)) := by
 simp only [lookV, findE, keyed, eqKey, eqT, Option.isSome_some, okPair, if_true, patK]
 by_cases h1 : x = 1
 ·simp [h1]
 ·by_cases h2 : x = 3
  ·simp [h2]
  ·by_cases h3 : x = 4
   ·simp [h3]
   ·simp [h1, h2, h3]
set_option maxHeartbeats 4000000 in
theorem patom_reads {f : Nat} (hg : Reads T p o 107 (run T f .pat)) : Reads T p o 109 (run T (f + 1) .patom) := by
 intro s n s' hi hr
 rw [run_patom] at hr
 have hR : s'.deep = s.deep ∧ Inv T s' := by
  split at hr
  ·injection hr with hr; injection hr with r1 r2
   subst r2; exact ⟨may_deep _ _, hi.may _⟩
  ·split at hr
   ·exact (round_reads hg hi hr).1
   ·injection hr with hr
    rw [show s' = (leaf T patK s).2 by rw [hr]]
    exact ⟨leaf_deep _ _, hi.leaf _⟩
 refine ⟨hR, fun h c d hp hpc => ?_⟩
 refine call_aw b109 rfl rfl rfl ?_; delta b109
 have e1 : decide ((3 : Int) = 1) = false := rfl
 have e2 : decide ((4 : Int) = 1) = false := rfl
 have e3 : decide ((4 : Int) = 3) = false := rfl
 have u1_0 : ∀ h x, upd h (c) x (p) = h (p) := fun h x => upd_ne h x (by omega)
 have u0_1 : ∀ h x, upd h (p) x (c) = h (c) := fun h x => upd_ne h x (by omega)
 have u2_0 : ∀ h x, upd h (c + 1) x (p) = h (p) := fun h x => upd_ne h x (by omega)
 have u0_2 : ∀ h x, upd h (p) x (c + 1) = h (c + 1) := fun h x => upd_ne h x (by omega)
 have u2_1 : ∀ h x, upd h (c + 1) x (c) = h (c) := fun h x => upd_ne h x (by omega)
 have u1_2 : ∀ h x, upd h (c) x (c + 1) = h (c + 1) := fun h x => upd_ne h x (by omega)
 have U0 : _ ∧ _ ∧ _ ∧ _ ∧ _ ∧ _ := ⟨u0_1, u0_2, u1_0, u1_2, u2_0, u2_1⟩
 simp -dsimp -implicitDefEqProofs only [go_sem, Nat.reduceAdd, Nat.reduceEqDiff, reduceIte, reduceCtorEq, Nat.reduceLeDiff, Nat.reduceLT, Nat.reduceSub, Int.reduceEq, Int.reduceLT, preH, OpK_alloc, ldCells, fillV, zeroN, zeroT, pcell, U0, hp]
 refine DoesK_of (look_call (s := s) (o := o) (p := p) hi (by first | exact hp | (simp only [U0, upd_same, hp]; done) | (simp only [U0, upd_same, hp]; rfl) | rfl) (by omega)) ?_
 rintro v st ⟨rfl, H1, C1, rfl, f1, P1⟩
 have F1 : Fr h c H1 C1 [p] := by
  refine Fr.trans ?_ f1 (by simp)
  refine Fr.more (c1 := c) ?_ (by omega)
  repeat (first | exact (Fr.refl h c [p]) | refine Fr.upd (c1 := c) ?_ _ (by first | (right; omega) | (left; simp; done)) (Nat.le_refl _))
 have L1 := F1.le
 have M1 := f1.le
 have Z1_1 : H1 (c) = some (.cells zeroN) := (f1.at (by omega) (by simp; omega)).trans (by first | (simp only [U0, upd_same]; done) | rfl | (simp only [U0, upd_same]; rfl))
 have Z1_2 : H1 (c + 1) = some (.cells zeroT) := (f1.at (by omega) (by simp; omega)).trans (by first | (simp only [U0, upd_same]; done) | rfl | (simp only [U0, upd_same]; rfl))
 simp -dsimp -implicitDefEqProofs only [go_sem, Nat.reduceAdd, Nat.reduceEqDiff, reduceIte, reduceCtorEq, Nat.reduceLeDiff, Nat.reduceLT, Nat.reduceSub, Int.reduceEq, Int.reduceLT, preH, OpK_alloc, ldCells, fillV, zeroN, zeroT, pcell, U0, P1, Z1_1, Z1_2, tkV, tokC, Z1_2]
 refine DoesK_of (may_call (s := s) (o := o) (p := p) hi (by first | exact P1 | (simp only [U0, upd_same, P1]; done) | (simp only [U0, upd_same, P1]; rfl) | rfl) (by omega) [95]) ?_
 rintro v st ⟨rfl, H2, C2, rfl, f2, P2⟩
 have F2 : Fr h c H2 C2 [p] := by
  refine Fr.trans ?_ f2 (by simp)
  refine Fr.more (c1 := C1) ?_ (by omega)
  repeat (first | exact F1 | refine Fr.upd (c1 := C1) ?_ _ (by first | (right; omega) | (left; simp; done)) (Nat.le_refl _))
 have L2 := F2.le
 have M2 := f2.le
 have Z2_1 : H2 (c) = some (.cells zeroN) := (f2.at (by omega) (by simp; omega)).trans (by first | (simp only [U0, upd_same, Z1_1]; done) | rfl | (simp only [U0, upd_same, Z1_1]; rfl))
 have Z2_2 : H2 (c + 1) = some (.cells [.int .i64 (look T s).1.k, .str (look T s).1.t, .int .i64 (look T s).1.n, .int .i64 ((look T s).2 : Int)]) := (f2.at (by omega) (by simp; omega)).trans (by first | (simp only [U0, upd_same]; done) | rfl | (simp only [U0, upd_same]; rfl))
 cases q1 : isW T [95] s
 ·rw [q1] at hr
  rw [if_neg (by simp)] at hr
  rw [may_no q1] at P2
  simp -dsimp -implicitDefEqProofs only [go_sem, Nat.reduceAdd, Nat.reduceEqDiff, reduceIte, reduceCtorEq, Nat.reduceLeDiff, Nat.reduceLT, Nat.reduceSub, Int.reduceEq, Int.reduceLT, preH, OpK_alloc, ldCells, fillV, zeroN, zeroT, pcell, U0, P2, Z2_1, Z2_2, q1]
  refine DoesK_of (isw_call (s := s) (o := o) (p := p) hi (by first | exact P2 | (simp only [U0, upd_same, P2]; done) | (simp only [U0, upd_same, P2]; rfl) | rfl) (by omega) [40]) ?_
  rintro v st ⟨rfl, H3, C3, rfl, f3, P3⟩
  have F3 : Fr h c H3 C3 [p] := by
   refine Fr.trans ?_ f3 (by simp)
   refine Fr.more (c1 := C2) ?_ (by omega)
   repeat (first | exact F2 | refine Fr.upd (c1 := C2) ?_ _ (by first | (right; omega) | (left; simp; done)) (Nat.le_refl _))
  have L3 := F3.le
  have M3 := f3.le
  have Z3_1 : H3 (c) = some (.cells zeroN) := (f3.at (by omega) (by simp; omega)).trans (by first | (simp only [U0, upd_same, Z2_1]; done) | rfl | (simp only [U0, upd_same, Z2_1]; rfl))
  have Z3_2 : H3 (c + 1) = some (.cells [.int .i64 (look T s).1.k, .str (look T s).1.t, .int .i64 (look T s).1.n, .int .i64 ((look T s).2 : Int)]) := (f3.at (by omega) (by simp; omega)).trans (by first | (simp only [U0, upd_same, Z2_2]; done) | rfl | (simp only [U0, upd_same, Z2_2]; rfl))
  cases q2 : isW T [40] s
  ·rw [q2] at hr
   rw [if_neg (by simp)] at hr
   injection hr with hr
   obtain ⟨r1, r2⟩ : n = (leaf T patK s).1 ∧ s' = (leaf T patK s).2 := by rw [hr]; exact ⟨rfl, rfl⟩
   subst r1; subst r2
   have u3_0 : ∀ h x, upd h (C3) x (p) = h (p) := fun h x => upd_ne h x (by omega)
   have u0_3 : ∀ h x, upd h (p) x (C3) = h (C3) := fun h x => upd_ne h x (by omega)
   have u3_1 : ∀ h x, upd h (C3) x (c) = h (c) := fun h x => upd_ne h x (by omega)
   have u1_3 : ∀ h x, upd h (c) x (C3) = h (C3) := fun h x => upd_ne h x (by omega)
   have u3_2 : ∀ h x, upd h (C3) x (c + 1) = h (c + 1) := fun h x => upd_ne h x (by omega)
   have u2_3 : ∀ h x, upd h (c + 1) x (C3) = h (C3) := fun h x => upd_ne h x (by omega)
   have U1 : _ ∧ _ ∧ _ ∧ _ ∧ _ ∧ _ ∧ _ ∧ _ ∧ _ ∧ _ ∧ _ ∧ _ := ⟨u0_1, u0_2, u0_3, u1_0, u1_2, u1_3, u2_0, u2_1, u2_3, u3_0, u3_1, u3_2⟩
   simp -dsimp -implicitDefEqProofs only [go_sem, Nat.reduceAdd, Nat.reduceEqDiff, reduceIte, reduceCtorEq, Nat.reduceLeDiff, Nat.reduceLT, Nat.reduceSub, Int.reduceEq, Int.reduceLT, preH, OpK_alloc, ldCells, fillV, zeroN, zeroT, pcell, U1, P3, Z3_1, Z3_2, keyed, eqKey, eqT, updM, putE, Option.isSome_some, e1, e2, e3, Aw_region1, OpsK_some1, OpsK_none1, OpsK_guard1, maskOf, List.flatMap_cons, List.flatMap_nil]
   refine DoesK_of (leaf_reads patK C3 [(.int .i64 1, .int .i64 1, 0), (.int .i64 3, .int .i64 4, 1), (.int .i64 4, .int .i64 5, 2)] _ pat_table hi _ _ _ (by first | exact P3 | (simp only [U1, upd_same, P3]; done) | (simp only [U1, upd_same, P3]; rfl) | rfl) (by omega) (by omega) (by omega) (upd_same _ _ _)) ?_
   rintro v st ⟨N4, H4, C4, rfl, f4, P4⟩
   have F4 : Fr h c H4 C4 [p] := by
    refine Fr.trans ?_ f4 (by simp)
    refine Fr.more (c1 := C3) ?_ (by omega)
    repeat (first | exact F3 | refine Fr.upd (c1 := C3) ?_ _ (by first | (right; omega) | (left; simp; done)) (Nat.le_refl _))
   have L4 := F4.le
   have M4 := f4.le
   have Z4_1 : H4 (c) = some (.cells zeroN) := (f4.at (by omega) (by simp; omega)).trans (by first | (simp only [U1, upd_same, Z3_1]; done) | rfl | (simp only [U1, upd_same, Z3_1]; rfl))
   have Z4_2 : H4 (c + 1) = some (.cells [.int .i64 (look T s).1.k, .str (look T s).1.t, .int .i64 (look T s).1.n, .int .i64 ((look T s).2 : Int)]) := (f4.at (by omega) (by simp; omega)).trans (by first | (simp only [U1, upd_same, Z3_2]; done) | rfl | (simp only [U1, upd_same, Z3_2]; rfl))
   obtain ⟨o4a, o4b, es4, rfl, E4⟩ := N4.inv
   simp -dsimp -implicitDefEqProofs only [go_sem, Nat.reduceAdd, Nat.reduceEqDiff, reduceIte, reduceCtorEq, Nat.reduceLeDiff, Nat.reduceLT, Nat.reduceSub, Int.reduceEq, Int.reduceLT, preH, OpK_alloc, ldCells, fillV, zeroN, zeroT, pcell, U1, P4, Z4_1, Z4_2, Aw_region1, OpsK_some1, OpsK_none1, OpsK_guard1, maskOf, List.flatMap_cons, List.flatMap_nil]
   exact ⟨N4, _, _, rfl, (by
     refine Fr.more (c1 := C4) ?_ (by omega)
     repeat (first | exact F4 | refine Fr.upd (c1 := C4) ?_ _ (by first | (right; omega) | (left; simp; done)) (Nat.le_refl _))), (by first | exact P4 | (simp only [U1, upd_same, P4]; done) | (simp only [U1, upd_same, P4]; rfl) | rfl)⟩
  ·rw [q2] at hr
   rw [if_pos rfl] at hr
   obtain ⟨_, c2⟩ := round_reads hg hi hr
   simp -dsimp -implicitDefEqProofs only [go_sem, Nat.reduceAdd, Nat.reduceEqDiff, reduceIte, reduceCtorEq, Nat.reduceLeDiff, Nat.reduceLT, Nat.reduceSub, Int.reduceEq, Int.reduceLT, preH, OpK_alloc, ldCells, fillV, zeroN, zeroT, pcell, U0, P3, Z3_1, Z3_2]
   refine DoesK_of (c2 _ _ _ (by first | exact P3 | (simp only [U0, upd_same, P3]; done) | (simp only [U0, upd_same, P3]; rfl) | rfl) (by omega)) ?_
   rintro v st ⟨N4, H4, C4, rfl, f4, P4⟩
   have F4 : Fr h c H4 C4 [p] := by
    refine Fr.trans ?_ f4 (by simp)
    refine Fr.more (c1 := C3) ?_ (by omega)
    repeat (first | exact F3 | refine Fr.upd (c1 := C3) ?_ _ (by first | (right; omega) | (left; simp; done)) (Nat.le_refl _))
   have L4 := F4.le
   have M4 := f4.le
   have Z4_1 : H4 (c) = some (.cells zeroN) := (f4.at (by omega) (by simp; omega)).trans (by first | (simp only [U0, upd_same, Z3_1]; done) | rfl | (simp only [U0, upd_same, Z3_1]; rfl))
   have Z4_2 : H4 (c + 1) = some (.cells [.int .i64 (look T s).1.k, .str (look T s).1.t, .int .i64 (look T s).1.n, .int .i64 ((look T s).2 : Int)]) := (f4.at (by omega) (by simp; omega)).trans (by first | (simp only [U0, upd_same, Z3_2]; done) | rfl | (simp only [U0, upd_same, Z3_2]; rfl))
   obtain ⟨o4a, o4b, es4, rfl, E4⟩ := N4.inv
   simp -dsimp -implicitDefEqProofs only [go_sem, Nat.reduceAdd, Nat.reduceEqDiff, reduceIte, reduceCtorEq, Nat.reduceLeDiff, Nat.reduceLT, Nat.reduceSub, Int.reduceEq, Int.reduceLT, preH, OpK_alloc, ldCells, fillV, zeroN, zeroT, pcell, U0, P4, Z4_1, Z4_2]
   exact ⟨N4, _, _, rfl, (by
     refine Fr.more (c1 := C4) ?_ (by omega)
     repeat (first | exact F4 | refine Fr.upd (c1 := C4) ?_ _ (by first | (right; omega) | (left; simp; done)) (Nat.le_refl _))), (by first | exact P4 | (simp only [U0, upd_same, P4]; done) | (simp only [U0, upd_same, P4]; rfl) | rfl)⟩
 ·rw [q1] at hr
  rw [if_pos rfl] at hr
  injection hr with hr; injection hr with r1 r2
  subst r1; subst r2
  simp -dsimp -implicitDefEqProofs only [go_sem, Nat.reduceAdd, Nat.reduceEqDiff, reduceIte, reduceCtorEq, Nat.reduceLeDiff, Nat.reduceLT, Nat.reduceSub, Int.reduceEq, Int.reduceLT, preH, OpK_alloc, ldCells, fillV, zeroN, zeroT, pcell, U0, P2, Z2_1, Z2_2, q1]
  refine DoesK_of (node_call 24 _ _ .full _ _ _ _) ?_
  rintro v st ⟨rfl, H3, C3, rfl, f3⟩
  have F3 : Fr h c H3 C3 [p] := by
   refine Fr.trans ?_ f3 (by simp)
   refine Fr.more (c1 := C2) ?_ (by omega)
   repeat (first | exact F2 | refine Fr.upd (c1 := C2) ?_ _ (by first | (right; omega) | (left; simp; done)) (Nat.le_refl _))
  have L3 := F3.le
  have M3 := f3.le
  have P3 : H3 p = _ := (f3.at (by omega) (by simp)).trans (by first | exact P2 | (simp only [U0, upd_same, P2]; rfl))
  have Z3_1 : H3 (c) = some (.cells zeroN) := (f3.at (by omega) (by simp)).trans (by first | (simp only [U0, upd_same, Z2_1]; done) | rfl | (simp only [U0, upd_same, Z2_1]; rfl))
  have Z3_2 : H3 (c + 1) = some (.cells [.int .i64 (look T s).1.k, .str (look T s).1.t, .int .i64 (look T s).1.n, .int .i64 ((look T s).2 : Int)]) := (f3.at (by omega) (by simp)).trans (by first | (simp only [U0, upd_same, Z2_2]; done) | rfl | (simp only [U0, upd_same, Z2_2]; rfl))
  simp -dsimp -implicitDefEqProofs only [go_sem, Nat.reduceAdd, Nat.reduceEqDiff, reduceIte, reduceCtorEq, Nat.reduceLeDiff, Nat.reduceLT, Nat.reduceSub, Int.reduceEq, Int.reduceLT, preH, OpK_alloc, ldCells, fillV, zeroN, zeroT, pcell, U0, P3, Z3_1, Z3_2]
  exact ⟨.mk rfl NRs.nil.2, _, _, rfl, (by
    refine Fr.more (c1 := C3) ?_ (by omega)
    repeat (first | exact F3 | refine Fr.upd (c1 := C3) ?_ _ (by first | (right; omega) | (left; simp; done)) (Nat.le_refl _))), (by first | exact P3 | (simp only [U0, upd_same, P3]; done) | (simp only [U0, upd_same, P3]; rfl) | rfl)⟩
end
section
variable {T : List Tok} {p : Nat} {o : Own}
theorem atom_table (x : Int) : keyed (.one .int) (.int .i64 x) (lookV (.one .int) (.int .i64 0) false (.int .i64 x) [(.int .i64 1, .int .i64 1, 0), (.int .i64 2, .int .i64 2, 1), (.int .i64 3, .int .i64 4, 2), (.int .i64 4, .int .i64 5, 3)]) = some (.int .i64 (leafK x)) := by
 simp only [lookV, findE, keyed, eqKey, eqT, Option.isSome_some, okPair, if_true, leafK]
 by_cases h1 : x = 1
 ·simp [h1]
 ·by_cases h2 : x = 2
  ·simp [h2]
  ·by_cases h3 : x = 3
   ·simp [h3]
   ·by_cases h4 : x = 4
    ·simp [h4]
    ·simp [h1, h2, h3, h4]
theorem isW_k {w : List UInt8} {s : PS} {x : Int} (h : (look T s).1.k = x) (h5 : x ≠ 5) (h6 : x ≠ 6) : isW T w s = false := by
 simp [isW, h, h5, h6]
/-- A constructor has no kids of its own yet. -/
theorem atom_bare {f : Nat} {s s' : PS} {n : Nd} (hk : (look T s).1.k = 4) (hr : run T (f + 1) .atom s = some (n, s')) : n.ks = [] := by
 rw [run_atom] at hr
 have e := fun w => isW_k (T := T) (w := w) hk (by decide) (by decide)
 simp only [e, Bool.false_eq_true, if_false] at hr
 injection hr with hr
 have : n = (leaf T leafK s).1 := by rw [hr]
 rw [this, leaf, if_neg (by rw [hk]; decide)]
 rfl
set_option maxHeartbeats 8000000 in
theorem atom_reads {f : Nat} (hm : Reads T p o 99 (run T f .matchE)) (ht : Reads T p o 100 (run T f .tryE)) (he : Reads T p o 35 (run T f .exp)) : Reads T p o 93 (run T (f + 1) .atom) := by
 intro s n s' hi hr
 rw [run_atom] at hr
 have hR : s'.deep = s.deep ∧ Inv T s' := by
  split at hr
  ·exact (hm _ _ _ hi hr).1
  split at hr
  ·exact (ht _ _ _ hi hr).1
  split at hr
  ·injection hr with hr; injection hr with r1 r2
   subst r2; exact ⟨take_deep _, hi.take⟩
  split at hr
  ·dsimp only at hr
   split at hr
   ·injection hr with hr; injection hr with r1 r2
    subst r2; exact ⟨by rw [may_deep, take_deep], hi.take.may _⟩
   ·split at hr
    case h_2 => cases hr
    rename_i n1 s1 g1
    injection hr with hr; injection hr with r1 r2
    obtain ⟨⟨d1, I1⟩, _⟩ := whole_reads he hi.take g1
    subst r2; exact ⟨by rw [must_deep, d1, take_deep], I1.must _⟩
  ·injection hr with hr
   rw [show s' = (leaf T leafK s).2 by rw [hr]]
   exact ⟨leaf_deep _ _, hi.leaf _⟩
 refine ⟨hR, fun h c d hp hpc => ?_⟩
 clear hR
 refine call_aw b93 rfl rfl rfl ?_; delta b93
 have e1 : decide ((2 : Int) = 1) = false := rfl
 have e2 : decide ((3 : Int) = 1) = false := rfl
 have e3 : decide ((3 : Int) = 2) = false := rfl
 have e4 : decide ((4 : Int) = 1) = false := rfl
 have e5 : decide ((4 : Int) = 2) = false := rfl
 have e6 : decide ((4 : Int) = 3) = false := rfl
 have u1_0 : ∀ h x, upd h (c) x (p) = h (p) := fun h x => upd_ne h x (by omega)
 have u0_1 : ∀ h x, upd h (p) x (c) = h (c) := fun h x => upd_ne h x (by omega)
 have u2_0 : ∀ h x, upd h (c + 1) x (p) = h (p) := fun h x => upd_ne h x (by omega)
 have u0_2 : ∀ h x, upd h (p) x (c + 1) = h (c + 1) := fun h x => upd_ne h x (by omega)
 have u2_1 : ∀ h x, upd h (c + 1) x (c) = h (c) := fun h x => upd_ne h x (by omega)
 have u1_2 : ∀ h x, upd h (c) x (c + 1) = h (c + 1) := fun h x => upd_ne h x (by omega)
 have U0 : _ ∧ _ ∧ _ ∧ _ ∧ _ ∧ _ := ⟨u0_1, u0_2, u1_0, u1_2, u2_0, u2_1⟩
 simp -dsimp -implicitDefEqProofs only [go_sem, Nat.reduceAdd, Nat.reduceEqDiff, reduceIte, reduceCtorEq, Nat.reduceLeDiff, Nat.reduceLT, Nat.reduceSub, Int.reduceEq, Int.reduceLT, preH, OpK_alloc, ldCells, fillV, zeroN, zeroT, pcell, U0, hp]
 refine DoesK_of (look_call (s := s) (o := o) (p := p) hi (by first | exact hp | (simp only [U0, upd_same, hp]; done) | (simp only [U0, upd_same, hp]; rfl) | rfl) (by omega)) ?_
 rintro v st ⟨rfl, H1, C1, rfl, f1, P1⟩
 have F1 : Fr h c H1 C1 [p] := by
  refine Fr.trans ?_ f1 (by simp)
  refine Fr.more (c1 := c) ?_ (by omega)
  repeat (first | exact (Fr.refl h c [p]) | refine Fr.upd (c1 := c) ?_ _ (by first | (right; omega) | (left; simp; done)) (Nat.le_refl _))
 have L1 := F1.le
 have M1 := f1.le
 have Z1_1 : H1 (c) = some (.cells zeroN) := (f1.at (by omega) (by simp; omega)).trans (by first | (simp only [U0, upd_same]; done) | rfl | (simp only [U0, upd_same]; rfl))
 have Z1_2 : H1 (c + 1) = some (.cells zeroT) := (f1.at (by omega) (by simp; omega)).trans (by first | (simp only [U0, upd_same]; done) | rfl | (simp only [U0, upd_same]; rfl))
 simp -dsimp -implicitDefEqProofs only [go_sem, Nat.reduceAdd, Nat.reduceEqDiff, reduceIte, reduceCtorEq, Nat.reduceLeDiff, Nat.reduceLT, Nat.reduceSub, Int.reduceEq, Int.reduceLT, preH, OpK_alloc, ldCells, fillV, zeroN, zeroT, pcell, U0, P1, Z1_1, Z1_2, tkV, tokC, Z1_2]
 refine DoesK_of (isw_call (s := s) (o := o) (p := p) hi (by first | exact P1 | (simp only [U0, upd_same, P1]; done) | (simp only [U0, upd_same, P1]; rfl) | rfl) (by omega) wMatch) ?_
 rintro v st ⟨rfl, H2, C2, rfl, f2, P2⟩
 have F2 : Fr h c H2 C2 [p] := by
  refine Fr.trans ?_ f2 (by simp)
  refine Fr.more (c1 := C1) ?_ (by omega)
  repeat (first | exact F1 | refine Fr.upd (c1 := C1) ?_ _ (by first | (right; omega) | (left; simp; done)) (Nat.le_refl _))
 have L2 := F2.le
 have M2 := f2.le
 have Z2_1 : H2 (c) = some (.cells zeroN) := (f2.at (by omega) (by simp; omega)).trans (by first | (simp only [U0, upd_same, Z1_1]; done) | rfl | (simp only [U0, upd_same, Z1_1]; rfl))
 have Z2_2 : H2 (c + 1) = some (.cells [.int .i64 (look T s).1.k, .str (look T s).1.t, .int .i64 (look T s).1.n, .int .i64 ((look T s).2 : Int)]) := (f2.at (by omega) (by simp; omega)).trans (by first | (simp only [U0, upd_same]; done) | rfl | (simp only [U0, upd_same]; rfl))
 cases q1 : isW T wMatch s
 ·rw [q1] at hr
  rw [if_neg (by simp)] at hr
  simp -dsimp -implicitDefEqProofs only [go_sem, Nat.reduceAdd, Nat.reduceEqDiff, reduceIte, reduceCtorEq, Nat.reduceLeDiff, Nat.reduceLT, Nat.reduceSub, Int.reduceEq, Int.reduceLT, preH, OpK_alloc, ldCells, fillV, zeroN, zeroT, pcell, U0, P2, Z2_1, Z2_2]
  refine DoesK_of (isw_call (s := s) (o := o) (p := p) hi (by first | exact P2 | (simp only [U0, upd_same, P2]; done) | (simp only [U0, upd_same, P2]; rfl) | rfl) (by omega) wTry) ?_
  rintro v st ⟨rfl, H3, C3, rfl, f3, P3⟩
  have F3 : Fr h c H3 C3 [p] := by
   refine Fr.trans ?_ f3 (by simp)
   refine Fr.more (c1 := C2) ?_ (by omega)
   repeat (first | exact F2 | refine Fr.upd (c1 := C2) ?_ _ (by first | (right; omega) | (left; simp; done)) (Nat.le_refl _))
  have L3 := F3.le
  have M3 := f3.le
  have Z3_1 : H3 (c) = some (.cells zeroN) := (f3.at (by omega) (by simp; omega)).trans (by first | (simp only [U0, upd_same, Z2_1]; done) | rfl | (simp only [U0, upd_same, Z2_1]; rfl))
  have Z3_2 : H3 (c + 1) = some (.cells [.int .i64 (look T s).1.k, .str (look T s).1.t, .int .i64 (look T s).1.n, .int .i64 ((look T s).2 : Int)]) := (f3.at (by omega) (by simp; omega)).trans (by first | (simp only [U0, upd_same, Z2_2]; done) | rfl | (simp only [U0, upd_same, Z2_2]; rfl))
  cases q2 : isW T wTry s
  ·rw [q2] at hr
   rw [if_neg (by simp)] at hr
   simp -dsimp -implicitDefEqProofs only [go_sem, Nat.reduceAdd, Nat.reduceEqDiff, reduceIte, reduceCtorEq, Nat.reduceLeDiff, Nat.reduceLT, Nat.reduceSub, Int.reduceEq, Int.reduceLT, preH, OpK_alloc, ldCells, fillV, zeroN, zeroT, pcell, U0, P3, Z3_1, Z3_2]
   refine DoesK_of (isw_call (s := s) (o := o) (p := p) hi (by first | exact P3 | (simp only [U0, upd_same, P3]; done) | (simp only [U0, upd_same, P3]; rfl) | rfl) (by omega) wRetry) ?_
   rintro v st ⟨rfl, H4, C4, rfl, f4, P4⟩
   have F4 : Fr h c H4 C4 [p] := by
    refine Fr.trans ?_ f4 (by simp)
    refine Fr.more (c1 := C3) ?_ (by omega)
    repeat (first | exact F3 | refine Fr.upd (c1 := C3) ?_ _ (by first | (right; omega) | (left; simp; done)) (Nat.le_refl _))
   have L4 := F4.le
   have M4 := f4.le
   have Z4_1 : H4 (c) = some (.cells zeroN) := (f4.at (by omega) (by simp; omega)).trans (by first | (simp only [U0, upd_same, Z3_1]; done) | rfl | (simp only [U0, upd_same, Z3_1]; rfl))
   have Z4_2 : H4 (c + 1) = some (.cells [.int .i64 (look T s).1.k, .str (look T s).1.t, .int .i64 (look T s).1.n, .int .i64 ((look T s).2 : Int)]) := (f4.at (by omega) (by simp; omega)).trans (by first | (simp only [U0, upd_same, Z3_2]; done) | rfl | (simp only [U0, upd_same, Z3_2]; rfl))
   cases q3 : isW T wRetry s
   ·rw [q3] at hr
    rw [if_neg (by simp)] at hr
    simp -dsimp -implicitDefEqProofs only [go_sem, Nat.reduceAdd, Nat.reduceEqDiff, reduceIte, reduceCtorEq, Nat.reduceLeDiff, Nat.reduceLT, Nat.reduceSub, Int.reduceEq, Int.reduceLT, preH, OpK_alloc, ldCells, fillV, zeroN, zeroT, pcell, U0, P4, Z4_1, Z4_2]
    refine DoesK_of (isw_call (s := s) (o := o) (p := p) hi (by first | exact P4 | (simp only [U0, upd_same, P4]; done) | (simp only [U0, upd_same, P4]; rfl) | rfl) (by omega) [40]) ?_
    rintro v st ⟨rfl, H5, C5, rfl, f5, P5⟩
    have F5 : Fr h c H5 C5 [p] := by
     refine Fr.trans ?_ f5 (by simp)
     refine Fr.more (c1 := C4) ?_ (by omega)
     repeat (first | exact F4 | refine Fr.upd (c1 := C4) ?_ _ (by first | (right; omega) | (left; simp; done)) (Nat.le_refl _))
    have L5 := F5.le
    have M5 := f5.le
    have Z5_1 : H5 (c) = some (.cells zeroN) := (f5.at (by omega) (by simp; omega)).trans (by first | (simp only [U0, upd_same, Z4_1]; done) | rfl | (simp only [U0, upd_same, Z4_1]; rfl))
    have Z5_2 : H5 (c + 1) = some (.cells [.int .i64 (look T s).1.k, .str (look T s).1.t, .int .i64 (look T s).1.n, .int .i64 ((look T s).2 : Int)]) := (f5.at (by omega) (by simp; omega)).trans (by first | (simp only [U0, upd_same, Z4_2]; done) | rfl | (simp only [U0, upd_same, Z4_2]; rfl))
    cases q4 : isW T [40] s
    ·rw [q4] at hr
     rw [if_neg (by simp)] at hr
     simp -dsimp -implicitDefEqProofs only [go_sem, Nat.reduceAdd, Nat.reduceEqDiff, reduceIte, reduceCtorEq, Nat.reduceLeDiff, Nat.reduceLT, Nat.reduceSub, Int.reduceEq, Int.reduceLT, preH, OpK_alloc, ldCells, fillV, zeroN, zeroT, pcell, U0, P5, Z5_1, Z5_2]
     injection hr with hr
     obtain ⟨r1, r2⟩ : n = (leaf T leafK s).1 ∧ s' = (leaf T leafK s).2 := by rw [hr]; exact ⟨rfl, rfl⟩
     subst r1; subst r2
     have u3_0 : ∀ h x, upd h (C5) x (p) = h (p) := fun h x => upd_ne h x (by omega)
     have u0_3 : ∀ h x, upd h (p) x (C5) = h (C5) := fun h x => upd_ne h x (by omega)
     have u3_1 : ∀ h x, upd h (C5) x (c) = h (c) := fun h x => upd_ne h x (by omega)
     have u1_3 : ∀ h x, upd h (c) x (C5) = h (C5) := fun h x => upd_ne h x (by omega)
     have u3_2 : ∀ h x, upd h (C5) x (c + 1) = h (c + 1) := fun h x => upd_ne h x (by omega)
     have u2_3 : ∀ h x, upd h (c + 1) x (C5) = h (C5) := fun h x => upd_ne h x (by omega)
     have U1 : _ ∧ _ ∧ _ ∧ _ ∧ _ ∧ _ ∧ _ ∧ _ ∧ _ ∧ _ ∧ _ ∧ _ := ⟨u0_1, u0_2, u0_3, u1_0, u1_2, u1_3, u2_0, u2_1, u2_3, u3_0, u3_1, u3_2⟩
     simp -dsimp -implicitDefEqProofs only [go_sem, Nat.reduceAdd, Nat.reduceEqDiff, reduceIte, reduceCtorEq, Nat.reduceLeDiff, Nat.reduceLT, Nat.reduceSub, Int.reduceEq, Int.reduceLT, preH, OpK_alloc, ldCells, fillV, zeroN, zeroT, pcell, U1, P5, Z5_1, Z5_2, keyed, eqKey, eqT, updM, putE, Option.isSome_some, e1, e2, e3, e4, e5, e6, Aw_region1, OpsK_some1, OpsK_none1, OpsK_guard1, maskOf, List.flatMap_cons, List.flatMap_nil]
     refine DoesK_of (leaf_reads leafK (C5) [(.int .i64 1, .int .i64 1, 0), (.int .i64 2, .int .i64 2, 1), (.int .i64 3, .int .i64 4, 2), (.int .i64 4, .int .i64 5, 3)] _ atom_table hi _ _ _ (by first | exact P5 | (simp only [U1, upd_same, P5]; done) | (simp only [U1, upd_same, P5]; rfl) | rfl) (by omega) (by omega) (by omega) (upd_same _ _ _)) ?_
     rintro v st ⟨N6, H6, C6, rfl, f6, P6⟩
     have F6 : Fr h c H6 C6 [p] := by
      refine Fr.trans ?_ f6 (by simp)
      refine Fr.more (c1 := C5) ?_ (by omega)
      repeat (first | exact F5 | refine Fr.upd (c1 := C5) ?_ _ (by first | (right; omega) | (left; simp; done)) (Nat.le_refl _))
     have L6 := F6.le
     have M6 := f6.le
     have Z6_1 : H6 (c) = some (.cells zeroN) := (f6.at (by omega) (by simp; omega)).trans (by first | (simp only [U1, upd_same, Z5_1]; done) | rfl | (simp only [U1, upd_same, Z5_1]; rfl))
     have Z6_2 : H6 (c + 1) = some (.cells [.int .i64 (look T s).1.k, .str (look T s).1.t, .int .i64 (look T s).1.n, .int .i64 ((look T s).2 : Int)]) := (f6.at (by omega) (by simp; omega)).trans (by first | (simp only [U1, upd_same, Z5_2]; done) | rfl | (simp only [U1, upd_same, Z5_2]; rfl))
     obtain ⟨o6a, o6b, es6, rfl, E6⟩ := N6.inv
     simp -dsimp -implicitDefEqProofs only [go_sem, Nat.reduceAdd, Nat.reduceEqDiff, reduceIte, reduceCtorEq, Nat.reduceLeDiff, Nat.reduceLT, Nat.reduceSub, Int.reduceEq, Int.reduceLT, preH, OpK_alloc, ldCells, fillV, zeroN, zeroT, pcell, U1, P6, Z6_1, Z6_2, Aw_region1, OpsK_some1, OpsK_none1, OpsK_guard1, maskOf, List.flatMap_cons, List.flatMap_nil]
     exact ⟨N6, _, _, rfl, (by
       refine Fr.more (c1 := C6) ?_ (by omega)
       repeat (first | exact F6 | refine Fr.upd (c1 := C6) ?_ _ (by first | (right; omega) | (left; simp; done)) (Nat.le_refl _))), (by first | exact P6 | (simp only [U1, upd_same, P6]; done) | (simp only [U1, upd_same, P6]; rfl) | rfl)⟩
    ·rw [q4] at hr
     rw [if_pos rfl] at hr
     simp -dsimp -implicitDefEqProofs only [go_sem, Nat.reduceAdd, Nat.reduceEqDiff, reduceIte, reduceCtorEq, Nat.reduceLeDiff, Nat.reduceLT, Nat.reduceSub, Int.reduceEq, Int.reduceLT, preH, OpK_alloc, ldCells, fillV, zeroN, zeroT, pcell, U0, P5, Z5_1, Z5_2]
     dsimp only at hr
     refine DoesK_of (take_call (o := o) (p := p) hi (by first | exact P5 | (simp only [U0, upd_same, P5]; done) | (simp only [U0, upd_same, P5]; rfl) | rfl) (by omega)) ?_
     rintro v st ⟨rfl, H6, C6, rfl, f6, P6⟩
     have F6 : Fr h c H6 C6 [p] := by
      refine Fr.trans ?_ f6 (by simp)
      refine Fr.more (c1 := C5) ?_ (by omega)
      repeat (first | exact F5 | refine Fr.upd (c1 := C5) ?_ _ (by first | (right; omega) | (left; simp; done)) (Nat.le_refl _))
     have L6 := F6.le
     have M6 := f6.le
     have Z6_1 : H6 (c) = some (.cells zeroN) := (f6.at (by omega) (by simp; omega)).trans (by first | (simp only [U0, upd_same, Z5_1]; done) | rfl | (simp only [U0, upd_same, Z5_1]; rfl))
     have Z6_2 : H6 (c + 1) = some (.cells [.int .i64 (look T s).1.k, .str (look T s).1.t, .int .i64 (look T s).1.n, .int .i64 ((look T s).2 : Int)]) := (f6.at (by omega) (by simp; omega)).trans (by first | (simp only [U0, upd_same, Z5_2]; done) | rfl | (simp only [U0, upd_same, Z5_2]; rfl))
     simp -dsimp -implicitDefEqProofs only [go_sem, Nat.reduceAdd, Nat.reduceEqDiff, reduceIte, reduceCtorEq, Nat.reduceLeDiff, Nat.reduceLT, Nat.reduceSub, Int.reduceEq, Int.reduceLT, preH, OpK_alloc, ldCells, fillV, zeroN, zeroT, pcell, U0, P6, Z6_1, Z6_2]
     refine DoesK_of (may_call (o := o) (p := p) hi.take (by first | exact P6 | (simp only [U0, upd_same, P6]; done) | (simp only [U0, upd_same, P6]; rfl) | rfl) (by omega) [41]) ?_
     rintro v st ⟨rfl, H7, C7, rfl, f7, P7⟩
     have F7 : Fr h c H7 C7 [p] := by
      refine Fr.trans ?_ f7 (by simp)
      refine Fr.more (c1 := C6) ?_ (by omega)
      repeat (first | exact F6 | refine Fr.upd (c1 := C6) ?_ _ (by first | (right; omega) | (left; simp; done)) (Nat.le_refl _))
     have L7 := F7.le
     have M7 := f7.le
     have Z7_1 : H7 (c) = some (.cells zeroN) := (f7.at (by omega) (by simp; omega)).trans (by first | (simp only [U0, upd_same, Z6_1]; done) | rfl | (simp only [U0, upd_same, Z6_1]; rfl))
     have Z7_2 : H7 (c + 1) = some (.cells [.int .i64 (look T s).1.k, .str (look T s).1.t, .int .i64 (look T s).1.n, .int .i64 ((look T s).2 : Int)]) := (f7.at (by omega) (by simp; omega)).trans (by first | (simp only [U0, upd_same, Z6_2]; done) | rfl | (simp only [U0, upd_same, Z6_2]; rfl))
     cases q5 : isW T [41] (takeS T s)
     ·rw [q5] at hr
      rw [if_neg (by simp)] at hr
      rw [may_no q5] at P7
      split at hr
      case h_2 => cases hr
      rename_i n1 s1 g1
      injection hr with hr; injection hr with r1 r2
      subst r1; subst r2
      obtain ⟨⟨d1, I1⟩, c1⟩ := whole_reads he hi.take g1
      simp -dsimp -implicitDefEqProofs only [go_sem, Nat.reduceAdd, Nat.reduceEqDiff, reduceIte, reduceCtorEq, Nat.reduceLeDiff, Nat.reduceLT, Nat.reduceSub, Int.reduceEq, Int.reduceLT, preH, OpK_alloc, ldCells, fillV, zeroN, zeroT, pcell, U0, P7, Z7_1, Z7_2]
      have u3_0 : ∀ h x, upd h (C7) x (p) = h (p) := fun h x => upd_ne h x (by omega)
      have u0_3 : ∀ h x, upd h (p) x (C7) = h (C7) := fun h x => upd_ne h x (by omega)
      have u3_1 : ∀ h x, upd h (C7) x (c) = h (c) := fun h x => upd_ne h x (by omega)
      have u1_3 : ∀ h x, upd h (c) x (C7) = h (C7) := fun h x => upd_ne h x (by omega)
      have u3_2 : ∀ h x, upd h (C7) x (c + 1) = h (c + 1) := fun h x => upd_ne h x (by omega)
      have u2_3 : ∀ h x, upd h (c + 1) x (C7) = h (C7) := fun h x => upd_ne h x (by omega)
      have U2 : _ ∧ _ ∧ _ ∧ _ ∧ _ ∧ _ ∧ _ ∧ _ ∧ _ ∧ _ ∧ _ ∧ _ := ⟨u0_1, u0_2, u0_3, u1_0, u1_2, u1_3, u2_0, u2_1, u2_3, u3_0, u3_1, u3_2⟩
      refine DoesK_of (c1 _ _ _ (by first | exact P7 | (simp only [U2, upd_same, P7]; done) | (simp only [U2, upd_same, P7]; rfl) | rfl) (by omega)) ?_
      rintro v st ⟨N8, H8, C8, rfl, f8, P8⟩
      have F8 : Fr h c H8 C8 [p] := by
       refine Fr.trans ?_ f8 (by simp)
       refine Fr.more (c1 := C7) ?_ (by omega)
       repeat (first | exact F7 | refine Fr.upd (c1 := C7) ?_ _ (by first | (right; omega) | (left; simp; done)) (Nat.le_refl _))
      have L8 := F8.le
      have M8 := f8.le
      have Z8_1 : H8 (c) = some (.cells zeroN) := (f8.at (by omega) (by simp; omega)).trans (by first | (simp only [U2, upd_same, Z7_1]; done) | rfl | (simp only [U2, upd_same, Z7_1]; rfl))
      have Z8_2 : H8 (c + 1) = some (.cells [.int .i64 (look T s).1.k, .str (look T s).1.t, .int .i64 (look T s).1.n, .int .i64 ((look T s).2 : Int)]) := (f8.at (by omega) (by simp; omega)).trans (by first | (simp only [U2, upd_same, Z7_2]; done) | rfl | (simp only [U2, upd_same, Z7_2]; rfl))
      have Z8_3 : H8 (C7) = some (.cells zeroN) := (f8.at (by omega) (by simp; omega)).trans (by first | (simp only [U2, upd_same]; done) | rfl | (simp only [U2, upd_same]; rfl))
      obtain ⟨o8a, o8b, es8, rfl, E8⟩ := N8.inv
      simp -dsimp -implicitDefEqProofs only [go_sem, Nat.reduceAdd, Nat.reduceEqDiff, reduceIte, reduceCtorEq, Nat.reduceLeDiff, Nat.reduceLT, Nat.reduceSub, Int.reduceEq, Int.reduceLT, preH, OpK_alloc, ldCells, fillV, zeroN, zeroT, pcell, U2, P8, Z8_1, Z8_2, Z8_3]
      refine DoesK_of (must_call (o := o) (p := p) I1 (by first | exact P8 | (simp only [U2, upd_same, P8]; done) | (simp only [U2, upd_same, P8]; rfl) | rfl) (by omega) [41]) ?_
      rintro v st ⟨rfl, H9, C9, rfl, f9, P9⟩
      have F9 : Fr h c H9 C9 [p] := by
       refine Fr.trans ?_ f9 (by simp)
       refine Fr.more (c1 := C8) ?_ (by omega)
       repeat (first | exact F8 | refine Fr.upd (c1 := C8) ?_ _ (by first | (right; omega) | (left; simp; done)) (Nat.le_refl _))
      have L9 := F9.le
      have M9 := f9.le
      have Z9_1 : H9 (c) = some (.cells zeroN) := (f9.at (by omega) (by simp; omega)).trans (by first | (simp only [U2, upd_same, Z8_1]; done) | rfl | (simp only [U2, upd_same, Z8_1]; rfl))
      have Z9_2 : H9 (c + 1) = some (.cells [.int .i64 (look T s).1.k, .str (look T s).1.t, .int .i64 (look T s).1.n, .int .i64 ((look T s).2 : Int)]) := (f9.at (by omega) (by simp; omega)).trans (by first | (simp only [U2, upd_same, Z8_2]; done) | rfl | (simp only [U2, upd_same, Z8_2]; rfl))
      have Z9_3 : H9 (C7) = some (.cells [.int .i64 n1.k, .str n1.t, .int .i64 n1.n, .int .i64 n1.a, .slice o8a (n1.ns.map AV.str), .slice o8b es8]) := (f9.at (by omega) (by simp; omega)).trans (by first | (simp only [U2, upd_same]; done) | rfl | (simp only [U2, upd_same]; rfl))
      simp -dsimp -implicitDefEqProofs only [go_sem, Nat.reduceAdd, Nat.reduceEqDiff, reduceIte, reduceCtorEq, Nat.reduceLeDiff, Nat.reduceLT, Nat.reduceSub, Int.reduceEq, Int.reduceLT, preH, OpK_alloc, ldCells, fillV, zeroN, zeroT, pcell, U2, P9, Z9_1, Z9_2, Z9_3, Aw_region1, OpsK_some1, OpsK_none1, OpsK_guard1, maskOf, List.flatMap_cons, List.flatMap_nil]
      exact ⟨N8, _, _, rfl, (by
        refine Fr.more (c1 := C9) ?_ (by omega)
        repeat (first | exact F9 | refine Fr.upd (c1 := C9) ?_ _ (by first | (right; omega) | (left; simp; done)) (Nat.le_refl _))), (by first | exact P9 | (simp only [U2, upd_same, P9]; done) | (simp only [U2, upd_same, P9]; rfl) | rfl)⟩
     ·rw [q5] at hr
      rw [if_pos rfl] at hr
      injection hr with hr; injection hr with r1 r2
      subst r1; subst r2
      simp -dsimp -implicitDefEqProofs only [go_sem, Nat.reduceAdd, Nat.reduceEqDiff, reduceIte, reduceCtorEq, Nat.reduceLeDiff, Nat.reduceLT, Nat.reduceSub, Int.reduceEq, Int.reduceLT, preH, OpK_alloc, ldCells, fillV, zeroN, zeroT, pcell, U0, P7, Z7_1, Z7_2]
      refine DoesK_of (node_call 3 _ _ .full _ _ _ _) ?_
      rintro v st ⟨rfl, H8, C8, rfl, f8⟩
      have F8 : Fr h c H8 C8 [p] := by
       refine Fr.trans ?_ f8 (by simp)
       refine Fr.more (c1 := C7) ?_ (by omega)
       repeat (first | exact F7 | refine Fr.upd (c1 := C7) ?_ _ (by first | (right; omega) | (left; simp; done)) (Nat.le_refl _))
      have L8 := F8.le
      have M8 := f8.le
      have P8 : H8 p = _ := (f8.at (by omega) (by simp)).trans (by first | exact P7 | (simp only [U0, upd_same, P7]; rfl))
      have Z8_1 : H8 (c) = some (.cells zeroN) := (f8.at (by omega) (by simp)).trans (by first | (simp only [U0, upd_same, Z7_1]; done) | rfl | (simp only [U0, upd_same, Z7_1]; rfl))
      have Z8_2 : H8 (c + 1) = some (.cells [.int .i64 (look T s).1.k, .str (look T s).1.t, .int .i64 (look T s).1.n, .int .i64 ((look T s).2 : Int)]) := (f8.at (by omega) (by simp)).trans (by first | (simp only [U0, upd_same, Z7_2]; done) | rfl | (simp only [U0, upd_same, Z7_2]; rfl))
      simp -dsimp -implicitDefEqProofs only [go_sem, Nat.reduceAdd, Nat.reduceEqDiff, reduceIte, reduceCtorEq, Nat.reduceLeDiff, Nat.reduceLT, Nat.reduceSub, Int.reduceEq, Int.reduceLT, preH, OpK_alloc, ldCells, fillV, zeroN, zeroT, pcell, U0, P8, Z8_1, Z8_2, Aw_region1, OpsK_some1, OpsK_none1, OpsK_guard1, maskOf, List.flatMap_cons, List.flatMap_nil]
      exact ⟨.mk rfl NRs.nil.2, _, _, rfl, (by
        refine Fr.more (c1 := C8) ?_ (by omega)
        repeat (first | exact F8 | refine Fr.upd (c1 := C8) ?_ _ (by first | (right; omega) | (left; simp; done)) (Nat.le_refl _))), (by first | exact P8 | (simp only [U0, upd_same, P8]; done) | (simp only [U0, upd_same, P8]; rfl) | rfl)⟩
   ·rw [q3] at hr
    rw [if_pos rfl] at hr
    simp -dsimp -implicitDefEqProofs only [go_sem, Nat.reduceAdd, Nat.reduceEqDiff, reduceIte, reduceCtorEq, Nat.reduceLeDiff, Nat.reduceLT, Nat.reduceSub, Int.reduceEq, Int.reduceLT, preH, OpK_alloc, ldCells, fillV, zeroN, zeroT, pcell, U0, P4, Z4_1, Z4_2]
    injection hr with hr; injection hr with r1 r2
    subst r1; subst r2
    refine DoesK_of (take_call (o := o) (p := p) hi (by first | exact P4 | (simp only [U0, upd_same, P4]; done) | (simp only [U0, upd_same, P4]; rfl) | rfl) (by omega)) ?_
    rintro v st ⟨rfl, H5, C5, rfl, f5, P5⟩
    have F5 : Fr h c H5 C5 [p] := by
     refine Fr.trans ?_ f5 (by simp)
     refine Fr.more (c1 := C4) ?_ (by omega)
     repeat (first | exact F4 | refine Fr.upd (c1 := C4) ?_ _ (by first | (right; omega) | (left; simp; done)) (Nat.le_refl _))
    have L5 := F5.le
    have M5 := f5.le
    have Z5_1 : H5 (c) = some (.cells zeroN) := (f5.at (by omega) (by simp; omega)).trans (by first | (simp only [U0, upd_same, Z4_1]; done) | rfl | (simp only [U0, upd_same, Z4_1]; rfl))
    have Z5_2 : H5 (c + 1) = some (.cells [.int .i64 (look T s).1.k, .str (look T s).1.t, .int .i64 (look T s).1.n, .int .i64 ((look T s).2 : Int)]) := (f5.at (by omega) (by simp; omega)).trans (by first | (simp only [U0, upd_same, Z4_2]; done) | rfl | (simp only [U0, upd_same, Z4_2]; rfl))
    simp -dsimp -implicitDefEqProofs only [go_sem, Nat.reduceAdd, Nat.reduceEqDiff, reduceIte, reduceCtorEq, Nat.reduceLeDiff, Nat.reduceLT, Nat.reduceSub, Int.reduceEq, Int.reduceLT, preH, OpK_alloc, ldCells, fillV, zeroN, zeroT, pcell, U0, P5, Z5_1, Z5_2]
    refine DoesK_of (node_call 19 _ _ .full _ _ _ _) ?_
    rintro v st ⟨rfl, H6, C6, rfl, f6⟩
    have F6 : Fr h c H6 C6 [p] := by
     refine Fr.trans ?_ f6 (by simp)
     refine Fr.more (c1 := C5) ?_ (by omega)
     repeat (first | exact F5 | refine Fr.upd (c1 := C5) ?_ _ (by first | (right; omega) | (left; simp; done)) (Nat.le_refl _))
    have L6 := F6.le
    have M6 := f6.le
    have P6 : H6 p = _ := (f6.at (by omega) (by simp)).trans (by first | exact P5 | (simp only [U0, upd_same, P5]; rfl))
    have Z6_1 : H6 (c) = some (.cells zeroN) := (f6.at (by omega) (by simp)).trans (by first | (simp only [U0, upd_same, Z5_1]; done) | rfl | (simp only [U0, upd_same, Z5_1]; rfl))
    have Z6_2 : H6 (c + 1) = some (.cells [.int .i64 (look T s).1.k, .str (look T s).1.t, .int .i64 (look T s).1.n, .int .i64 ((look T s).2 : Int)]) := (f6.at (by omega) (by simp)).trans (by first | (simp only [U0, upd_same, Z5_2]; done) | rfl | (simp only [U0, upd_same, Z5_2]; rfl))
    simp -dsimp -implicitDefEqProofs only [go_sem, Nat.reduceAdd, Nat.reduceEqDiff, reduceIte, reduceCtorEq, Nat.reduceLeDiff, Nat.reduceLT, Nat.reduceSub, Int.reduceEq, Int.reduceLT, preH, OpK_alloc, ldCells, fillV, zeroN, zeroT, pcell, U0, P6, Z6_1, Z6_2, Aw_region1, OpsK_some1, OpsK_none1, OpsK_guard1, maskOf, List.flatMap_cons, List.flatMap_nil]
    exact ⟨.mk rfl NRs.nil.2, _, _, rfl, (by
      refine Fr.more (c1 := C6) ?_ (by omega)
      repeat (first | exact F6 | refine Fr.upd (c1 := C6) ?_ _ (by first | (right; omega) | (left; simp; done)) (Nat.le_refl _))), (by first | exact P6 | (simp only [U0, upd_same, P6]; done) | (simp only [U0, upd_same, P6]; rfl) | rfl)⟩
  ·rw [q2] at hr
   rw [if_pos rfl] at hr
   simp -dsimp -implicitDefEqProofs only [go_sem, Nat.reduceAdd, Nat.reduceEqDiff, reduceIte, reduceCtorEq, Nat.reduceLeDiff, Nat.reduceLT, Nat.reduceSub, Int.reduceEq, Int.reduceLT, preH, OpK_alloc, ldCells, fillV, zeroN, zeroT, pcell, U0, P3, Z3_1, Z3_2]
   obtain ⟨_, c2⟩ := ht _ _ _ hi hr
   refine DoesK_of (c2 _ _ _ (by first | exact P3 | (simp only [U0, upd_same, P3]; done) | (simp only [U0, upd_same, P3]; rfl) | rfl) (by omega)) ?_
   rintro v st ⟨N4, H4, C4, rfl, f4, P4⟩
   have F4 : Fr h c H4 C4 [p] := by
    refine Fr.trans ?_ f4 (by simp)
    refine Fr.more (c1 := C3) ?_ (by omega)
    repeat (first | exact F3 | refine Fr.upd (c1 := C3) ?_ _ (by first | (right; omega) | (left; simp; done)) (Nat.le_refl _))
   have L4 := F4.le
   have M4 := f4.le
   have Z4_1 : H4 (c) = some (.cells zeroN) := (f4.at (by omega) (by simp; omega)).trans (by first | (simp only [U0, upd_same, Z3_1]; done) | rfl | (simp only [U0, upd_same, Z3_1]; rfl))
   have Z4_2 : H4 (c + 1) = some (.cells [.int .i64 (look T s).1.k, .str (look T s).1.t, .int .i64 (look T s).1.n, .int .i64 ((look T s).2 : Int)]) := (f4.at (by omega) (by simp; omega)).trans (by first | (simp only [U0, upd_same, Z3_2]; done) | rfl | (simp only [U0, upd_same, Z3_2]; rfl))
   obtain ⟨o4a, o4b, es4, rfl, E4⟩ := N4.inv
   simp -dsimp -implicitDefEqProofs only [go_sem, Nat.reduceAdd, Nat.reduceEqDiff, reduceIte, reduceCtorEq, Nat.reduceLeDiff, Nat.reduceLT, Nat.reduceSub, Int.reduceEq, Int.reduceLT, preH, OpK_alloc, ldCells, fillV, zeroN, zeroT, pcell, U0, P4, Z4_1, Z4_2, Aw_region1, OpsK_some1, OpsK_none1, OpsK_guard1, maskOf, List.flatMap_cons, List.flatMap_nil]
   exact ⟨N4, _, _, rfl, (by
     refine Fr.more (c1 := C4) ?_ (by omega)
     repeat (first | exact F4 | refine Fr.upd (c1 := C4) ?_ _ (by first | (right; omega) | (left; simp; done)) (Nat.le_refl _))), (by first | exact P4 | (simp only [U0, upd_same, P4]; done) | (simp only [U0, upd_same, P4]; rfl) | rfl)⟩
 ·rw [q1] at hr
  rw [if_pos rfl] at hr
  simp -dsimp -implicitDefEqProofs only [go_sem, Nat.reduceAdd, Nat.reduceEqDiff, reduceIte, reduceCtorEq, Nat.reduceLeDiff, Nat.reduceLT, Nat.reduceSub, Int.reduceEq, Int.reduceLT, preH, OpK_alloc, ldCells, fillV, zeroN, zeroT, pcell, U0, P2, Z2_1, Z2_2]
  obtain ⟨_, c2⟩ := hm _ _ _ hi hr
  refine DoesK_of (c2 _ _ _ (by first | exact P2 | (simp only [U0, upd_same, P2]; done) | (simp only [U0, upd_same, P2]; rfl) | rfl) (by omega)) ?_
  rintro v st ⟨N3, H3, C3, rfl, f3, P3⟩
  have F3 : Fr h c H3 C3 [p] := by
   refine Fr.trans ?_ f3 (by simp)
   refine Fr.more (c1 := C2) ?_ (by omega)
   repeat (first | exact F2 | refine Fr.upd (c1 := C2) ?_ _ (by first | (right; omega) | (left; simp; done)) (Nat.le_refl _))
  have L3 := F3.le
  have M3 := f3.le
  have Z3_1 : H3 (c) = some (.cells zeroN) := (f3.at (by omega) (by simp; omega)).trans (by first | (simp only [U0, upd_same, Z2_1]; done) | rfl | (simp only [U0, upd_same, Z2_1]; rfl))
  have Z3_2 : H3 (c + 1) = some (.cells [.int .i64 (look T s).1.k, .str (look T s).1.t, .int .i64 (look T s).1.n, .int .i64 ((look T s).2 : Int)]) := (f3.at (by omega) (by simp; omega)).trans (by first | (simp only [U0, upd_same, Z2_2]; done) | rfl | (simp only [U0, upd_same, Z2_2]; rfl))
  obtain ⟨o3a, o3b, es3, rfl, E3⟩ := N3.inv
  simp -dsimp -implicitDefEqProofs only [go_sem, Nat.reduceAdd, Nat.reduceEqDiff, reduceIte, reduceCtorEq, Nat.reduceLeDiff, Nat.reduceLT, Nat.reduceSub, Int.reduceEq, Int.reduceLT, preH, OpK_alloc, ldCells, fillV, zeroN, zeroT, pcell, U0, P3, Z3_1, Z3_2, Aw_region1, OpsK_some1, OpsK_none1, OpsK_guard1, maskOf, List.flatMap_cons, List.flatMap_nil]
  exact ⟨N3, _, _, rfl, (by
    refine Fr.more (c1 := C3) ?_ (by omega)
    repeat (first | exact F3 | refine Fr.upd (c1 := C3) ?_ _ (by first | (right; omega) | (left; simp; done)) (Nat.le_refl _))), (by first | exact P3 | (simp only [U0, upd_same, P3]; done) | (simp only [U0, upd_same, P3]; rfl) | rfl)⟩
end
def oOf : Option Nat → Own
 | none => .full
 | some id => .own id
theorem ownG_eq (i : Option Nat) (es : List AV) : ownG i es = .slice (oOf i) es := by cases i <;> rfl
/-- The kids that a local holds: the row is this call's own. -/
structure Row (H : Hp) (C an : Nat) (i : Option Nat) (ks : List Nd) (es : List AV) : Prop where
 own : OwnG H 6 i es
 nr : NRs ks es
 lo : ∀ j, i = some j → an < j ∧ j < C
 nil : ks = [] → i = none
theorem Row.start (H : Hp) (C an : Nat) : Row H C an none [] [] := ⟨rfl, NRs.nil, nofun, fun _ => rfl⟩
theorem Row.ofFull {H : Hp} {C an : Nat} {ks : List Nd} {es : List AV} (h : NRs ks es) : Row H C an none ks es := ⟨h.sized, h, nofun, fun _ => rfl⟩
theorem Row.keep {H H' : Hp} {C C' an : Nat} {i : Option Nat} {ks : List Nd} {es : List AV} {l : List Nat} (r : Row H C an i ks es) (f : Fr H C H' C' l) (hl : ∀ x ∈ l, x ≤ an) : Row H' C' an i ks es :=
 ⟨r.own.keep fun j hj => f.at (r.lo j hj).2 fun hm => by have := hl j hm; have := (r.lo j hj).1; omega, r.nr, fun j hj => ⟨(r.lo j hj).1, Nat.lt_of_lt_of_le (r.lo j hj).2 f.le⟩, r.nil⟩
theorem Row.upd {H : Hp} {C C' an : Nat} {i : Option Nat} {ks : List Nd} {es : List AV} (r : Row H C an i ks es) (x : Nat) (o : AObj) (hx : x ≤ an ∨ C ≤ x) (hC : C ≤ C') : Row (Abs.upd H x o) C' an i ks es :=
 ⟨r.own.keep fun j hj => upd_ne _ _ (by have := r.lo j hj; omega), r.nr, fun j hj => ⟨(r.lo j hj).1, Nat.lt_of_lt_of_le (r.lo j hj).2 hC⟩, r.nil⟩
theorem Row.updB {H H0 : Hp} {C C' C0 an : Nat} {i : Option Nat} {ks ks0 : List Nd} {es es0 : List AV} (r : Row H C an i ks es) (r0 : Row H0 C0 an i ks0 es0) (x : Nat) (o : AObj) (hx : C0 ≤ x) (hC : C ≤ C') : Row (Abs.upd H x o) C' an i ks es :=
 ⟨r.own.keep fun j hj => upd_ne _ _ (by have := r0.lo j hj; omega), r.nr, fun j hj => ⟨(r.lo j hj).1, Nat.lt_of_lt_of_le (r.lo j hj).2 hC⟩, r.nil⟩
theorem Row.more {H : Hp} {C C' an : Nat} {i : Option Nat} {ks : List Nd} {es : List AV} (r : Row H C an i ks es) (hC : C ≤ C') : Row H C' an i ks es :=
 ⟨r.own, r.nr, fun j hj => ⟨(r.lo j hj).1, Nat.lt_of_lt_of_le (r.lo j hj).2 hC⟩, r.nil⟩
theorem Row.id {H : Hp} {C an b : Nat} {i : Option Nat} {ks : List Nd} {es : List AV} (r : Row H C an i ks es) (hb : an < b) (hC : b < C) : an < i.getD b ∧ i.getD b < C := by
 cases i with
 | none => exact ⟨hb, hC⟩
 | some j => exact r.lo j rfl
theorem Row.idB {H : Hp} {C an b x : Nat} {i : Option Nat} {ks : List Nd} {es : List AV} (r : Row H C an i ks es) (hx : C ≤ x) (hb : x < b) : i.getD b ≠ x := by
 cases i with
 | none => simp only [Option.getD_none]; omega
 | some j => have := r.lo j rfl; simp only [Option.getD_some]; omega
theorem Row.grow {H : Hp} {C an b : Nat} {i : Option Nat} {ks ls : List Nd} {es fs : List AV} {d : List (Nat × List AV)} {o : Own} (r : Row H C an i ks es) (hb : an < b) (hC : b < C) (hN : NRs ls fs) (hne : fs.length ≠ 0) (hlen : ks.length + fs.length ≤ 4000000000) :
  appK b 0 6 88 ⟨H, C, d⟩ (.slice (oOf i) es) (.slice o fs) = some (.slice (.own (i.getD b)) (es ++ fs), ⟨Abs.upd H (i.getD b) (.arr (es.length + fs.length) 6), C, d⟩) ∧
  Row (Abs.upd H (i.getD b) (.arr (es.length + fs.length) 6)) C an (some (i.getD b)) (ks ++ ls) (es ++ fs) := by
 have hl := r.nr.1
 have := @appK_many b 0 6 88 H C d i es fs o r.own hN.sized hne (by rw [hl]; omega)
 rw [ownG_eq] at this
 refine ⟨this, OwnG.many, r.nr.app hN, fun j hj => by cases hj; exact r.id hb hC, fun h => ?_⟩
 have h2 := congrArg List.length h
 rw [List.length_append, ← hN.1, List.length_nil] at h2
 omega
theorem Row.one {H : Hp} {C an b : Nat} {i : Option Nat} {ks : List Nd} {x : Nd} {es : List AV} {v : AV} {d : List (Nat × List AV)} {o : Own} (r : Row H C an i ks es) (hb : an < b) (hC : b < C) (hN : NR x v) (hlen : ks.length ≤ 3000000000) :
  appK b 0 6 88 ⟨H, C, d⟩ (.slice (oOf i) es) (.slice o [v]) = some (.slice (.own (i.getD b)) (es ++ [v]), ⟨Abs.upd H (i.getD b) (.arr (es.length + 1) 6), C, d⟩) ∧
  Row (Abs.upd H (i.getD b) (.arr (es.length + 1) 6)) C an (some (i.getD b)) (ks ++ [x]) (es ++ [v]) :=
 r.grow hb hC (NRs.one hN) (by simp) (by simp; omega)
theorem Row.two {H : Hp} {C an b : Nat} {i : Option Nat} {ks : List Nd} {x y : Nd} {es : List AV} {v w : AV} {d : List (Nat × List AV)} {o : Own} (r : Row H C an i ks es) (hb : an < b) (hC : b < C) (hN : NR x v) (hM : NR y w) (hlen : ks.length ≤ 3000000000) :
  appK b 0 6 88 ⟨H, C, d⟩ (.slice (oOf i) es) (.slice o [v, w]) = some (.slice (.own (i.getD b)) (es ++ [v, w]), ⟨Abs.upd H (i.getD b) (.arr (es.length + 2) 6), C, d⟩) ∧
  Row (Abs.upd H (i.getD b) (.arr (es.length + 2) 6)) C an (some (i.getD b)) (ks ++ [x, y]) (es ++ [v, w]) :=
 r.grow hb hC ((NRs.one hN).app (NRs.one hM)) (by simp) (by simp; omega)
theorem Row.node {H : Hp} {C an : Nat} {i : Option Nat} {ks : List Nd} {es : List AV} (r : Row H C an i ks es) (k : Int) (t : List UInt8) (n a : Int) (ns : List (List UInt8)) (o : Own) :
  NR (.mk k t n a ns ks) (.agg [.int .i64 k, .str t, .int .i64 n, .int .i64 a, .slice o (ns.map AV.str), .slice (oOf i) es]) :=
 .mk r.nr.1 r.nr.2 fun h => by rw [r.nil h]; rfl
section
variable {T : List Tok} {p : Nat} {o : Own}
theorem kindOf_le (w : List UInt8) : (kindOf w).2 ≤ 2 := by
 unfold kindOf
 repeat' (split; · decide)
 decide
theorem kidsLoop_inv {f : Nat} (ha : ∀ m, m ≤ f → Reads T p o 93 (run T m .atom)) : ∀ (many q : Nat) (nd : Nd) (s : PS) (n : Nd) (s' : PS), q ≤ f → Inv T s → run T q (.kidsLoop nd many) s = some (n, s') → s'.deep = s.deep ∧ Inv T s' := by
 intro many
 induction many with
 | zero =>
  intro q nd s n s' hq hi hr
  cases q with
  | zero => cases hr
  | succ q =>
   rw [run_kidsLoop] at hr
   injection hr with hr; injection hr with r1 r2
   subst r2; exact ⟨rfl, hi⟩
 | succ many ih =>
  intro q nd s n s' hq hi hr
  cases q with
  | zero => cases hr
  | succ q =>
   rw [run_kidsLoop] at hr
   dsimp only at hr
   split at hr
   case h_2 => cases hr
   rename_i n2 s2 g2
   obtain ⟨⟨d1, I1⟩, _⟩ := ha q (by omega) _ _ _ hi g2
   obtain ⟨d2, I2⟩ := ih q _ _ _ _ (by omega) I1 hr
   exact ⟨by rw [d2, d1], I2⟩
theorem appLoop_inv {f : Nat} (ha : ∀ m, m ≤ f → Reads T p o 93 (run T m .atom)) (bare : Bool) : ∀ (q : Nat) (nd : Nd) (s : PS) (n : Nd) (s' : PS), q ≤ f → Inv T s → run T q (.appLoop bare nd) s = some (n, s') → s'.deep = s.deep ∧ Inv T s' := by
 intro q
 induction q with
 | zero => intro nd s n s' hq hi hr; cases hr
 | succ q ih =>
  intro nd s n s' hq hi hr
  rw [run_appLoop] at hr
  split at hr
  ·split at hr
   ·split at hr
    case h_2 => cases hr
    rename_i n2 s2 g2
    obtain ⟨⟨d1, I1⟩, _⟩ := ha q (by omega) _ _ _ (hi.most _ _) g2
    obtain ⟨d2, I2⟩ := ih _ _ _ _ (by omega) I1 hr
    exact ⟨by rw [d2, d1, most_deep], I2⟩
   ·split at hr
    case h_2 => cases hr
    rename_i n2 s2 g2
    obtain ⟨⟨d1, I1⟩, _⟩ := ha q (by omega) _ _ _ hi g2
    obtain ⟨d2, I2⟩ := ih _ _ _ _ (by omega) I1 hr
    exact ⟨by rw [d2, d1], I2⟩
  ·injection hr with hr; injection hr with r1 r2
   subst r2; exact ⟨rfl, hi⟩
set_option maxHeartbeats 8000000 in
theorem app_kids {f : Nat} (ha : ∀ m, m ≤ f → Reads T p o 93 (run T m .atom)) {s s' : PS} {n : Nd} (hi : Inv T s) (hk6 : (look T s).1.k = 6) (hk0 : (kindOf (look T s).1.t).1 > 0)
  (hr : run T f (.kidsLoop (node (kindOf (look T s).1.t).1 (look T s).2 [] []) (kindOf (look T s).1.t).2) (takeS T s) = some (n, s')) :
  ∀ h c d, h p = some (pcell o T s) → p < c → Does X 82 [.ptr p 0] ⟨h, c, d⟩ (NK p o T h c d n s') := by
 intro h c d hp hpc
 refine call_aw b82 rfl rfl rfl ?_; delta b82
 have hk6' : decide ((look T s).1.k = 6) = true := by simpa using hk6
 have hk0' : decide ((kindOf (look T s).1.t).1 > 0) = true := by simpa using hk0
 obtain ⟨tot, htot⟩ : ∃ tot, tot = (kindOf (look T s).1.t).2 := ⟨_, rfl⟩
 have htot2 : tot ≤ 2 := by rw [htot]; exact kindOf_le _
 rw [← htot] at hr
 have u1_0 : ∀ h x, upd h (c) x (p) = h (p) := fun h x => upd_ne h x (by omega)
 have u0_1 : ∀ h x, upd h (p) x (c) = h (c) := fun h x => upd_ne h x (by omega)
 have u2_0 : ∀ h x, upd h (c + 1) x (p) = h (p) := fun h x => upd_ne h x (by omega)
 have u0_2 : ∀ h x, upd h (p) x (c + 1) = h (c + 1) := fun h x => upd_ne h x (by omega)
 have u2_1 : ∀ h x, upd h (c + 1) x (c) = h (c) := fun h x => upd_ne h x (by omega)
 have u1_2 : ∀ h x, upd h (c) x (c + 1) = h (c + 1) := fun h x => upd_ne h x (by omega)
 have U0 : _ ∧ _ ∧ _ ∧ _ ∧ _ ∧ _ := ⟨u0_1, u0_2, u1_0, u1_2, u2_0, u2_1⟩
 simp -dsimp -implicitDefEqProofs only [go_sem, Nat.reduceAdd, Nat.reduceEqDiff, reduceIte, reduceCtorEq, Nat.reduceLeDiff, Nat.reduceLT, Nat.reduceSub, Int.reduceEq, Int.reduceLT, preH, OpK_alloc, ldCells, fillV, zeroN, zeroT, pcell, U0, hp]
 refine DoesK_of (look_call (s := s) (o := o) (p := p) hi (by first | exact hp | (simp only [U0, upd_same, hp]; done) | (simp only [U0, upd_same, hp]; rfl) | rfl) (by omega)) ?_
 rintro v st ⟨rfl, H1, C1, rfl, f1, P1⟩
 have F1 : Fr h c H1 C1 [p] := by
  refine Fr.trans ?_ f1 (by simp)
  refine Fr.more (c1 := c) ?_ (by omega)
  repeat (first | exact (Fr.refl h c [p]) | refine Fr.upd (c1 := c) ?_ _ (by first | (right; omega) | (left; simp; done)) (Nat.le_refl _))
 have L1 := F1.le
 have M1 := f1.le
 have Z1_1 : H1 (c) = some (.cells zeroN) := (f1.at (by omega) (by simp; omega)).trans (by first | (simp only [U0, upd_same]; done) | rfl | (simp only [U0, upd_same]; rfl))
 have Z1_2 : H1 (c + 1) = some (.cells zeroT) := (f1.at (by omega) (by simp; omega)).trans (by first | (simp only [U0, upd_same]; done) | rfl | (simp only [U0, upd_same]; rfl))
 simp -dsimp -implicitDefEqProofs only [go_sem, Nat.reduceAdd, Nat.reduceEqDiff, reduceIte, reduceCtorEq, Nat.reduceLeDiff, Nat.reduceLT, Nat.reduceSub, Int.reduceEq, Int.reduceLT, preH, OpK_alloc, ldCells, fillV, zeroN, zeroT, pcell, U0, P1, Z1_1, Z1_2, tkV, tokC, Z1_2]
 refine DoesK_of (kind_call (look T s).1.t _) ?_
 rintro v st ⟨rfl, rfl⟩
 rw [← htot]
 simp -dsimp -implicitDefEqProofs only [go_sem, Nat.reduceAdd, Nat.reduceEqDiff, reduceIte, reduceCtorEq, Nat.reduceLeDiff, Nat.reduceLT, Nat.reduceSub, Int.reduceEq, Int.reduceLT, preH, OpK_alloc, ldCells, fillV, zeroN, zeroT, pcell, U0, P1, Z1_1, hk6', hk0']
 refine DoesK_of (take_call (o := o) (p := p) hi (by first | exact P1 | (simp only [U0, upd_same, P1]; done) | (simp only [U0, upd_same, P1]; rfl) | rfl) (by omega)) ?_
 rintro v st ⟨rfl, H2, C2, rfl, f2, P2⟩
 have F2 : Fr h c H2 C2 [p] := by
  refine Fr.trans ?_ f2 (by simp)
  refine Fr.more (c1 := C1) ?_ (by omega)
  repeat (first | exact F1 | refine Fr.upd (c1 := C1) ?_ _ (by first | (right; omega) | (left; simp; done)) (Nat.le_refl _))
 have L2 := F2.le
 have M2 := f2.le
 have Z2_1 : H2 (c) = some (.cells zeroN) := (f2.at (by omega) (by simp; omega)).trans (by first | (simp only [U0, upd_same, Z1_1]; done) | rfl | (simp only [U0, upd_same, Z1_1]; rfl))
 have Z2_2 : H2 (c + 1) = some (.cells [.int .i64 (look T s).1.k, .str (look T s).1.t, .int .i64 (look T s).1.n, .int .i64 ((look T s).2 : Int)]) := (f2.at (by omega) (by simp; omega)).trans (by first | (simp only [U0, upd_same]; done) | rfl | (simp only [U0, upd_same]; rfl))
 have u3_0 : ∀ h x, upd h (C2) x (p) = h (p) := fun h x => upd_ne h x (by omega)
 have u0_3 : ∀ h x, upd h (p) x (C2) = h (C2) := fun h x => upd_ne h x (by omega)
 have u3_1 : ∀ h x, upd h (C2) x (c) = h (c) := fun h x => upd_ne h x (by omega)
 have u1_3 : ∀ h x, upd h (c) x (C2) = h (C2) := fun h x => upd_ne h x (by omega)
 have u3_2 : ∀ h x, upd h (C2) x (c + 1) = h (c + 1) := fun h x => upd_ne h x (by omega)
 have u2_3 : ∀ h x, upd h (c + 1) x (C2) = h (C2) := fun h x => upd_ne h x (by omega)
 have U1 : _ ∧ _ ∧ _ ∧ _ ∧ _ ∧ _ ∧ _ ∧ _ ∧ _ ∧ _ ∧ _ ∧ _ := ⟨u0_1, u0_2, u0_3, u1_0, u1_2, u1_3, u2_0, u2_1, u2_3, u3_0, u3_1, u3_2⟩
 simp -dsimp -implicitDefEqProofs only [go_sem, Nat.reduceAdd, Nat.reduceEqDiff, reduceIte, reduceCtorEq, Nat.reduceLeDiff, Nat.reduceLT, Nat.reduceSub, Int.reduceEq, Int.reduceLT, preH, OpK_alloc, ldCells, fillV, zeroN, zeroT, pcell, U1, P2, Z2_1, Z2_2, Aw_region1, OpsK_some1, OpsK_none1, OpsK_guard1, maskOf, List.flatMap_cons, List.flatMap_nil]
 refine DoesK_of (node_call _ _ _ .full _ _ _ _) ?_
 rintro v st ⟨rfl, H3, C3, rfl, f3⟩
 have F3 : Fr h c H3 C3 [p] := by
  refine Fr.trans ?_ f3 (by simp)
  refine Fr.more (c1 := C2) ?_ (by omega)
  repeat (first | exact F2 | refine Fr.upd (c1 := C2) ?_ _ (by first | (right; omega) | (left; simp; done)) (Nat.le_refl _))
 have L3 := F3.le
 have M3 := f3.le
 have P3 : H3 p = _ := (f3.at (by omega) (by simp)).trans (by first | exact P2 | (simp only [U1, upd_same, P2]; rfl))
 have Z3_1 : H3 (c) = some (.cells zeroN) := (f3.at (by omega) (by simp)).trans (by first | (simp only [U1, upd_same, Z2_1]; done) | rfl | (simp only [U1, upd_same, Z2_1]; rfl))
 have Z3_2 : H3 (c + 1) = some (.cells [.int .i64 (look T s).1.k, .str (look T s).1.t, .int .i64 (look T s).1.n, .int .i64 ((look T s).2 : Int)]) := (f3.at (by omega) (by simp)).trans (by first | (simp only [U1, upd_same, Z2_2]; done) | rfl | (simp only [U1, upd_same, Z2_2]; rfl))
 have Z3_3 : H3 (C2) = some (.cells zeroN) := (f3.at (by omega) (by simp)).trans (by first | (simp only [U1, upd_same]; done) | rfl | (simp only [U1, upd_same]; rfl))
 simp -dsimp -implicitDefEqProofs only [go_sem, Nat.reduceAdd, Nat.reduceEqDiff, reduceIte, reduceCtorEq, Nat.reduceLeDiff, Nat.reduceLT, Nat.reduceSub, Int.reduceEq, Int.reduceLT, preH, OpK_alloc, ldCells, fillV, zeroN, zeroT, pcell, U1, P3, Z3_1, Z3_2, Aw_region1, OpsK_some1, OpsK_none1, OpsK_guard1, maskOf, List.flatMap_cons, List.flatMap_nil, Z3_3]
 have e30 : (tot : Int) = (tot : Int) := rfl
 let I : Nat → AEnv → ASt → Prop := fun m e st => ∃ (nd : Nd) (sk : PS) (q cnt : Nat) (i : Option Nat) (o1 : Own) (es : List AV) (H : Hp) (C : Nat), q ≤ f ∧ run T q (.kidsLoop nd m) sk = some (n, s') ∧ Inv T sk ∧ Fr h c H C [p] ∧ cnt + m = tot ∧ nd.ks.length = cnt ∧ C2 < C ∧ H p = some (pcell o T sk) ∧ H c = some (.cells zeroN) ∧
   H C2 = some (.cells [.int .i64 nd.k, .str nd.t, .int .i64 nd.n, .int .i64 nd.a, .slice o1 (nd.ns.map AV.str), .slice (oOf i) es]) ∧ Row H C C2 i nd.ks es ∧
   e.get 0 = .ptr p 0 ∧ e.get 2 = .ptr c 0 ∧ e.get 6 = .ptr C2 0 ∧ e.get 30 = .int .i64 (tot : Int) ∧ e.get 31 = .int .i64 (cnt : Int) ∧ st = ⟨H, C, []⟩
 refine LoopK_rule I tot ⟨_, _, f, 0, none, .full, [], _, _, Nat.le_refl _, hr, hi.take, (by
   refine Fr.more (c1 := C3) ?_ (by omega)
   repeat (first | exact F3 | refine Fr.upd (c1 := C3) ?_ _ (by first | (right; omega) | (left; simp; done)) (Nat.le_refl _))), Nat.zero_add _, rfl, by omega, (by first | exact P3 | (simp only [U1, upd_same, P3]; done) | (simp only [U1, upd_same, P3]; rfl) | rfl), (by first | exact Z3_1 | (simp only [U1, upd_same, Z3_1]; done) | rfl), upd_same _ _ _, Row.start _ _ _, rfl, rfl, rfl, rfl, rfl, rfl⟩ ?_
 rintro m e st ⟨⟨nk, nt, nn, na, nns, nks⟩, sk, q, cnt, i, o1, es, H, C, hq, hrk, Ik, HF, hcm, hlen, hanC, HP, Zc, Zn, RW, g0, g2, g6, g30, g31, rfl⟩
 replace Zn : H C2 = some (.cells [.int .i64 nk, .str nt, .int .i64 nn, .int .i64 na, .slice o1 (nns.map AV.str), .slice (oOf i) es]) := Zn
 replace RW : Row H C C2 i nks es := RW
 replace hlen : nks.length = cnt := hlen
 have w31 : IntKind.wrap .i64 ((cnt : Int) + 1) = ((cnt + 1 : Nat) : Int) := by rw [wrap_i64 (by omega) (by omega)]; rfl
 cases q with
 | zero => cases hrk
 | succ q =>
  have hcC := HF.le
  have u1_0 : ∀ h x, upd h (c) x (p) = h (p) := fun h x => upd_ne h x (by omega)
  have u0_1 : ∀ h x, upd h (p) x (c) = h (c) := fun h x => upd_ne h x (by omega)
  have u2_0 : ∀ h x, upd h (C2) x (p) = h (p) := fun h x => upd_ne h x (by omega)
  have u0_2 : ∀ h x, upd h (p) x (C2) = h (C2) := fun h x => upd_ne h x (by omega)
  have u2_1 : ∀ h x, upd h (C2) x (c) = h (c) := fun h x => upd_ne h x (by omega)
  have u1_2 : ∀ h x, upd h (c) x (C2) = h (C2) := fun h x => upd_ne h x (by omega)
  have U2 : _ ∧ _ ∧ _ ∧ _ ∧ _ ∧ _ := ⟨u0_1, u0_2, u1_0, u1_2, u2_0, u2_1⟩
  rw [run_kidsLoop] at hrk
  cases m with
  | zero =>
   injection hrk with hrk; injection hrk with r1 r2
   subst r1; subst r2
   have hlt : decide ((cnt : Int) < (tot : Int)) = false := by simp; omega
   simp -dsimp -implicitDefEqProofs only [go_sem, Nat.reduceAdd, Nat.reduceEqDiff, reduceIte, reduceCtorEq, Nat.reduceLeDiff, Nat.reduceLT, Nat.reduceSub, Int.reduceEq, Int.reduceLT, preH, OpK_alloc, ldCells, fillV, zeroN, zeroT, pcell, U2, HP, Zc, Zn, g0, g2, g6, g30, g31, hlt]
   exact ⟨RW.node _ _ _ _ _ _, _, _, rfl, (by
     refine Fr.more (c1 := C) ?_ (by omega)
     repeat (first | exact HF | refine Fr.upd (c1 := C) ?_ _ (by first | (right; omega) | (left; simp; done)) (Nat.le_refl _))), (by first | exact HP | (simp only [U2, upd_same, HP]; done) | (simp only [U2, upd_same, HP]; rfl) | rfl)⟩
  | succ m =>
   dsimp only at hrk
   split at hrk
   case h_2 => cases hrk
   rename_i n2 s2 q2
   obtain ⟨⟨e1, J1⟩, e2⟩ := ha q (by omega) _ _ _ Ik q2
   have hlt : decide ((cnt : Int) < (tot : Int)) = true := by simp; omega
   simp -dsimp -implicitDefEqProofs only [go_sem, Nat.reduceAdd, Nat.reduceEqDiff, reduceIte, reduceCtorEq, Nat.reduceLeDiff, Nat.reduceLT, Nat.reduceSub, Int.reduceEq, Int.reduceLT, preH, OpK_alloc, ldCells, fillV, zeroN, zeroT, pcell, U2, HP, Zc, Zn, g0, g2, g6, g30, g31, hlt, Aw_region1, OpsK_some1, OpsK_none1, OpsK_guard1, maskOf, List.flatMap_cons, List.flatMap_nil]
   refine DoesK_of (e2 _ _ _ (by first | exact HP | (simp only [U2, upd_same, HP]; done) | (simp only [U2, upd_same, HP]; rfl) | rfl) (by omega)) ?_
   rintro v st ⟨N11, H11, C11, rfl, f11, P11⟩
   have F11 : Fr h c H11 C11 [p] := by
    refine Fr.trans ?_ f11 (by simp)
    refine Fr.more (c1 := C) ?_ (by omega)
    repeat (first | exact HF | refine Fr.upd (c1 := C) ?_ _ (by first | (right; omega) | (left; simp; done)) (Nat.le_refl _))
   have L11 := F11.le
   have M11 := f11.le
   have Z11_1 : H11 (c) = some (.cells zeroN) := (f11.at (by omega) (by simp; omega)).trans (by first | (simp only [U2, upd_same, Zc]; done) | rfl | (simp only [U2, upd_same, Zc]; rfl))
   have Z11_2 : H11 (C2) = some (.cells [.int .i64 nk, .str nt, .int .i64 nn, .int .i64 na, .slice o1 (nns.map AV.str), .slice (oOf i) es]) := (f11.at (by omega) (by simp; omega)).trans (by first | (simp only [U2, upd_same, Zn]; done) | rfl | (simp only [U2, upd_same, Zn]; rfl))
   obtain ⟨o11a, o11b, es11, rfl, E11⟩ := N11.inv
   have RW11 : Row H11 C11 C2 i nks es := ((RW).more (by omega)).keep f11 (by simp; omega)
   have hbig : nks.length ≤ 3000000000 := by omega
   have hone := RW11.one (b := C) (d := []) (o := .full) (by omega) (by omega) N11 hbig
   have happ := hone.1
   have RW11a := hone.2
   clear hone
   have hj0 := RW11.id (b := C) (by omega) (by omega)
   have hj1 := hj0.1
   have hj2 := hj0.2
   clear hj0
   generalize i.getD (C) = j at happ RW11a hj1 hj2
   have u3_0 : ∀ h x, upd h (j) x (p) = h (p) := fun h x => upd_ne h x (by omega)
   have u0_3 : ∀ h x, upd h (p) x (j) = h (j) := fun h x => upd_ne h x (by omega)
   have u3_1 : ∀ h x, upd h (j) x (c) = h (c) := fun h x => upd_ne h x (by omega)
   have u1_3 : ∀ h x, upd h (c) x (j) = h (j) := fun h x => upd_ne h x (by omega)
   have u3_2 : ∀ h x, upd h (j) x (C2) = h (C2) := fun h x => upd_ne h x (by omega)
   have u2_3 : ∀ h x, upd h (C2) x (j) = h (j) := fun h x => upd_ne h x (by omega)
   have U3 : _ ∧ _ ∧ _ ∧ _ ∧ _ ∧ _ ∧ _ ∧ _ ∧ _ ∧ _ ∧ _ ∧ _ := ⟨u0_1, u0_2, u0_3, u1_0, u1_2, u1_3, u2_0, u2_1, u2_3, u3_0, u3_1, u3_2⟩
   simp -dsimp -implicitDefEqProofs only [go_sem, Nat.reduceAdd, Nat.reduceEqDiff, reduceIte, reduceCtorEq, Nat.reduceLeDiff, Nat.reduceLT, Nat.reduceSub, Int.reduceEq, Int.reduceLT, preH, OpK_alloc, ldCells, fillV, zeroN, zeroT, pcell, U3, P11, Z11_1, Z11_2, g0, g2, g6, g30, g31, Aw_region1, OpsK_some1, OpsK_none1, OpsK_guard1, maskOf, List.flatMap_cons, List.flatMap_nil, partsV, happ]
   simp only [List.contains_cons, List.contains_nil, Nat.reduceBEq, Bool.or_false, Bool.or_true, Bool.false_or, Bool.true_or, Bool.false_eq_true, if_true, if_false, opKey, ldKey, ev_tmp, get_cons, Nat.reduceEqDiff, reduceIte, Stable_cons, Stable_nil, List.forall_mem_cons, and_true, true_and]
   refine ⟨by simp [g6, Zn, Z11_2], ?_⟩
   simp -dsimp -implicitDefEqProofs only [go_sem, Nat.reduceAdd, Nat.reduceEqDiff, reduceIte, reduceCtorEq, Nat.reduceLeDiff, Nat.reduceLT, Nat.reduceSub, Int.reduceEq, Int.reduceLT, preH, OpK_alloc, ldCells, fillV, zeroN, zeroT, pcell, U3, P11, Z11_1, Z11_2, g0, g2, g6, g30, g31, w31]
   refine Again.of m (by omega) ⟨(Nd.mk nk nt nn na nns nks).add [n2], s2, q, cnt + 1, some j, o1, _, _, _, by omega, hrk, J1, (by
     refine Fr.more (c1 := C11) ?_ (by omega)
     repeat (first | exact F11 | refine Fr.upd (c1 := C11) ?_ _ (by first | (right; omega) | (left; simp; done)) (Nat.le_refl _))), by omega, by simp only [Nd.add, Nd.ks, List.length_append, List.length_cons, List.length_nil]; omega, by omega, (by first | exact P11 | (simp only [U3, upd_same, P11]; done) | (simp only [U3, upd_same, P11]; rfl) | rfl), (by first | exact Z11_1 | (simp only [U3, upd_same, Z11_1]; done) | rfl), upd_same _ _ _, (RW11a.upd _ _ (by omega) (Nat.le_refl _)), g0, g2, g6, g30, rfl, rfl⟩
end
section
variable {T : List Tok} {p : Nat} {o : Own}
set_option maxHeartbeats 8000000 in
theorem app_bare {f : Nat} (hf : f ≤ 1000000000) (ha : ∀ m, m ≤ f → Reads T p o 93 (run T m .atom)) {s s' s1 : PS} {n n1 : Nd} (hi : Inv T s) (hk4 : (look T s).1.k = 4) (h1 : run T f .atom s = some (n1, s1)) (hr : run T f (.appLoop true n1) s1 = some (n, s')) :
  ∀ h c d, h p = some (pcell o T s) → p < c → Does X 82 [.ptr p 0] ⟨h, c, d⟩ (NK p o T h c d n s') := by
 intro h c d hp hpc
 have hks : n1.ks = [] := by
  cases f with
  | zero => cases h1
  | succ f => exact atom_bare hk4 h1
 refine call_aw b82 rfl rfl rfl ?_; delta b82
 have hk6 : decide ((look T s).1.k = 6) = false := by rw [hk4]; rfl
 have hk4' : decide ((look T s).1.k = 4) = true := by rw [hk4]; rfl
 obtain ⟨⟨d1, I1⟩, c1⟩ := ha f (Nat.le_refl _) _ _ _ hi h1
 have u1_0 : ∀ h x, upd h (c) x (p) = h (p) := fun h x => upd_ne h x (by omega)
 have u0_1 : ∀ h x, upd h (p) x (c) = h (c) := fun h x => upd_ne h x (by omega)
 have u2_0 : ∀ h x, upd h (c + 1) x (p) = h (p) := fun h x => upd_ne h x (by omega)
 have u0_2 : ∀ h x, upd h (p) x (c + 1) = h (c + 1) := fun h x => upd_ne h x (by omega)
 have u2_1 : ∀ h x, upd h (c + 1) x (c) = h (c) := fun h x => upd_ne h x (by omega)
 have u1_2 : ∀ h x, upd h (c) x (c + 1) = h (c + 1) := fun h x => upd_ne h x (by omega)
 have U0 : _ ∧ _ ∧ _ ∧ _ ∧ _ ∧ _ := ⟨u0_1, u0_2, u1_0, u1_2, u2_0, u2_1⟩
 simp -dsimp -implicitDefEqProofs only [go_sem, Nat.reduceAdd, Nat.reduceEqDiff, reduceIte, reduceCtorEq, Nat.reduceLeDiff, Nat.reduceLT, Nat.reduceSub, Int.reduceEq, Int.reduceLT, preH, OpK_alloc, ldCells, fillV, zeroN, zeroT, pcell, U0, hp]
 refine DoesK_of (look_call (s := s) (o := o) (p := p) hi (by first | exact hp | (simp only [U0, upd_same, hp]; done) | (simp only [U0, upd_same, hp]; rfl) | rfl) (by omega)) ?_
 rintro v st ⟨rfl, H1, C1, rfl, f1, P1⟩
 have F1 : Fr h c H1 C1 [p] := by
  refine Fr.trans ?_ f1 (by simp)
  refine Fr.more (c1 := c) ?_ (by omega)
  repeat (first | exact (Fr.refl h c [p]) | refine Fr.upd (c1 := c) ?_ _ (by first | (right; omega) | (left; simp; done)) (Nat.le_refl _))
 have L1 := F1.le
 have M1 := f1.le
 have Z1_1 : H1 (c) = some (.cells zeroN) := (f1.at (by omega) (by simp; omega)).trans (by first | (simp only [U0, upd_same]; done) | rfl | (simp only [U0, upd_same]; rfl))
 have Z1_2 : H1 (c + 1) = some (.cells zeroT) := (f1.at (by omega) (by simp; omega)).trans (by first | (simp only [U0, upd_same]; done) | rfl | (simp only [U0, upd_same]; rfl))
 simp -dsimp -implicitDefEqProofs only [go_sem, Nat.reduceAdd, Nat.reduceEqDiff, reduceIte, reduceCtorEq, Nat.reduceLeDiff, Nat.reduceLT, Nat.reduceSub, Int.reduceEq, Int.reduceLT, preH, OpK_alloc, ldCells, fillV, zeroN, zeroT, pcell, U0, P1, Z1_1, Z1_2, tkV, tokC, Z1_2]
 refine DoesK_of (kind_call (look T s).1.t _) ?_
 rintro v st ⟨rfl, rfl⟩
 simp -dsimp -implicitDefEqProofs only [go_sem, Nat.reduceAdd, Nat.reduceEqDiff, reduceIte, reduceCtorEq, Nat.reduceLeDiff, Nat.reduceLT, Nat.reduceSub, Int.reduceEq, Int.reduceLT, preH, OpK_alloc, ldCells, fillV, zeroN, zeroT, pcell, U0, P1, Z1_1, hk6]
 have u3_0 : ∀ h x, upd h (C1) x (p) = h (p) := fun h x => upd_ne h x (by omega)
 have u0_3 : ∀ h x, upd h (p) x (C1) = h (C1) := fun h x => upd_ne h x (by omega)
 have u3_1 : ∀ h x, upd h (C1) x (c) = h (c) := fun h x => upd_ne h x (by omega)
 have u1_3 : ∀ h x, upd h (c) x (C1) = h (C1) := fun h x => upd_ne h x (by omega)
 have u3_2 : ∀ h x, upd h (C1) x (c + 1) = h (c + 1) := fun h x => upd_ne h x (by omega)
 have u2_3 : ∀ h x, upd h (c + 1) x (C1) = h (C1) := fun h x => upd_ne h x (by omega)
 have U1 : _ ∧ _ ∧ _ ∧ _ ∧ _ ∧ _ ∧ _ ∧ _ ∧ _ ∧ _ ∧ _ ∧ _ := ⟨u0_1, u0_2, u0_3, u1_0, u1_2, u1_3, u2_0, u2_1, u2_3, u3_0, u3_1, u3_2⟩
 refine DoesK_of (c1 _ _ _ (by first | exact P1 | (simp only [U1, upd_same, P1]; done) | (simp only [U1, upd_same, P1]; rfl) | rfl) (by omega)) ?_
 rintro v st ⟨N2, H2, C2, rfl, f2, P2⟩
 have F2 : Fr h c H2 C2 [p] := by
  refine Fr.trans ?_ f2 (by simp)
  refine Fr.more (c1 := C1) ?_ (by omega)
  repeat (first | exact F1 | refine Fr.upd (c1 := C1) ?_ _ (by first | (right; omega) | (left; simp; done)) (Nat.le_refl _))
 have L2 := F2.le
 have M2 := f2.le
 have Z2_1 : H2 (c) = some (.cells zeroN) := (f2.at (by omega) (by simp; omega)).trans (by first | (simp only [U1, upd_same, Z1_1]; done) | rfl | (simp only [U1, upd_same, Z1_1]; rfl))
 have Z2_2 : H2 (c + 1) = some (.cells [.int .i64 (look T s).1.k, .str (look T s).1.t, .int .i64 (look T s).1.n, .int .i64 ((look T s).2 : Int)]) := (f2.at (by omega) (by simp; omega)).trans (by first | (simp only [U1, upd_same]; done) | rfl | (simp only [U1, upd_same]; rfl))
 have Z2_3 : H2 (C1) = some (.cells zeroN) := (f2.at (by omega) (by simp; omega)).trans (by first | (simp only [U1, upd_same]; done) | rfl | (simp only [U1, upd_same]; rfl))
 obtain ⟨o2a, o2b, es2, rfl, E2⟩ := N2.inv
 simp -dsimp -implicitDefEqProofs only [go_sem, Nat.reduceAdd, Nat.reduceEqDiff, reduceIte, reduceCtorEq, Nat.reduceLeDiff, Nat.reduceLT, Nat.reduceSub, Int.reduceEq, Int.reduceLT, preH, OpK_alloc, ldCells, fillV, zeroN, zeroT, pcell, U1, P2, Z2_1, Z2_2, Aw_region1, OpsK_some1, OpsK_none1, OpsK_guard1, maskOf, List.flatMap_cons, List.flatMap_nil, hk4', Z2_3]
 obtain ⟨hfull, hnil⟩ := N2.full hks
 subst hnil; subst hfull
 obtain ⟨k1, t1, x1, a1, ns1, ks1⟩ := n1
 have hks : ks1 = [] := hks
 subst hks
 let I : Nat → AEnv → ASt → Prop := fun m e st => ∃ (nd : Nd) (sk : PS) (i : Option Nat) (o1 : Own) (es : List AV) (H : Hp) (C : Nat), nd.ks.length + m ≤ f ∧ run T m (.appLoop true nd) sk = some (n, s') ∧ Inv T sk ∧ Fr h c H C [p] ∧ C1 < C ∧ H p = some (pcell o T sk) ∧ H c = some (.cells zeroN) ∧
   H C1 = some (.cells [.int .i64 nd.k, .str nd.t, .int .i64 nd.n, .int .i64 nd.a, .slice o1 (nd.ns.map AV.str), .slice (oOf i) es]) ∧ Row H C C1 i nd.ks es ∧
   e.get 0 = .ptr p 0 ∧ e.get 2 = .ptr c 0 ∧ e.get 7 = .ptr C1 0 ∧ e.get 8 = .bool true ∧ st = ⟨H, C, []⟩
 refine LoopK_rule I f ⟨_, _, none, o2a, [], _, _, Nat.le_of_eq (Nat.zero_add _), hr, I1, (by
   refine Fr.more (c1 := C2) ?_ (by omega)
   repeat (first | exact F2 | refine Fr.upd (c1 := C2) ?_ _ (by first | (right; omega) | (left; simp; done)) (Nat.le_refl _))), by omega, (by first | exact P2 | (simp only [U1, upd_same, P2]; done) | (simp only [U1, upd_same, P2]; rfl) | rfl), (by first | exact Z2_1 | (simp only [U1, upd_same, Z2_1]; done) | rfl), upd_same _ _ _, Row.start _ _ _, rfl, rfl, rfl, rfl, rfl⟩ ?_
 rintro m e st ⟨⟨nk, nt, nn, na, nns, nks⟩, sk, i, o1, es, H, C, hm, hrk, Ik, HF, hanC, HP, Zc, Zn, RW, g0, g2, g7, g8, rfl⟩
 replace Zn : H C1 = some (.cells [.int .i64 nk, .str nt, .int .i64 nn, .int .i64 na, .slice o1 (nns.map AV.str), .slice (oOf i) es]) := Zn
 replace RW : Row H C C1 i nks es := RW
 replace hm : nks.length + m ≤ f := hm
 have hesl := RW.nr.1
 cases m with
 | zero => cases hrk
 | succ m =>
  have hcC := HF.le
  have u1_0 : ∀ h x, upd h (c) x (p) = h (p) := fun h x => upd_ne h x (by omega)
  have u0_1 : ∀ h x, upd h (p) x (c) = h (c) := fun h x => upd_ne h x (by omega)
  have u2_0 : ∀ h x, upd h (C1) x (p) = h (p) := fun h x => upd_ne h x (by omega)
  have u0_2 : ∀ h x, upd h (p) x (C1) = h (C1) := fun h x => upd_ne h x (by omega)
  have u2_1 : ∀ h x, upd h (C1) x (c) = h (c) := fun h x => upd_ne h x (by omega)
  have u1_2 : ∀ h x, upd h (c) x (C1) = h (C1) := fun h x => upd_ne h x (by omega)
  have U2 : _ ∧ _ ∧ _ ∧ _ ∧ _ ∧ _ := ⟨u0_1, u0_2, u1_0, u1_2, u2_0, u2_1⟩
  rw [run_appLoop] at hrk
  simp -dsimp -implicitDefEqProofs only [go_sem, Nat.reduceAdd, Nat.reduceEqDiff, reduceIte, reduceCtorEq, Nat.reduceLeDiff, Nat.reduceLT, Nat.reduceSub, Int.reduceEq, Int.reduceLT, preH, OpK_alloc, ldCells, fillV, zeroN, zeroT, pcell, U2, HP, Zc, Zn, g0, g2, g7, g8]
  refine DoesK_of (begins_call (o := o) (p := p) Ik (by first | exact HP | (simp only [U2, upd_same, HP]; done) | (simp only [U2, upd_same, HP]; rfl) | rfl) (by omega)) ?_
  rintro v st ⟨rfl, H11, C11, rfl, f11, P11⟩
  have F11 : Fr h c H11 C11 [p] := by
   refine Fr.trans ?_ f11 (by simp)
   refine Fr.more (c1 := C) ?_ (by omega)
   repeat (first | exact HF | refine Fr.upd (c1 := C) ?_ _ (by first | (right; omega) | (left; simp; done)) (Nat.le_refl _))
  have L11 := F11.le
  have M11 := f11.le
  have Z11_1 : H11 (c) = some (.cells zeroN) := (f11.at (by omega) (by simp; omega)).trans (by first | (simp only [U2, upd_same, Zc]; done) | rfl | (simp only [U2, upd_same, Zc]; rfl))
  have Z11_2 : H11 (C1) = some (.cells [.int .i64 nk, .str nt, .int .i64 nn, .int .i64 na, .slice o1 (nns.map AV.str), .slice (oOf i) es]) := (f11.at (by omega) (by simp; omega)).trans (by first | (simp only [U2, upd_same, Zn]; done) | rfl | (simp only [U2, upd_same, Zn]; rfl))
  have RW11 := (RW.more (Nat.le_refl _)).keep f11 (by simp; omega)
  cases hb : begins T sk
  ·rw [hb] at hrk
   rw [if_neg (by simp)] at hrk
   injection hrk with hrk; injection hrk with r1 r2
   subst r1; subst r2
   simp -dsimp -implicitDefEqProofs only [go_sem, Nat.reduceAdd, Nat.reduceEqDiff, reduceIte, reduceCtorEq, Nat.reduceLeDiff, Nat.reduceLT, Nat.reduceSub, Int.reduceEq, Int.reduceLT, preH, OpK_alloc, ldCells, fillV, zeroN, zeroT, pcell, U2, P11, Z11_1, Z11_2, g0, g2, g7, g8]
   exact ⟨RW11.node _ _ _ _ _ _, _, _, rfl, (by
     refine Fr.more (c1 := C11) ?_ (by omega)
     repeat (first | exact F11 | refine Fr.upd (c1 := C11) ?_ _ (by first | (right; omega) | (left; simp; done)) (Nat.le_refl _))), (by first | exact P11 | (simp only [U2, upd_same, P11]; done) | (simp only [U2, upd_same, P11]; rfl) | rfl)⟩
  ·rw [hb] at hrk
   rw [if_pos rfl] at hrk
   rw [if_pos rfl] at hrk
   split at hrk
   case h_2 => cases hrk
   rename_i n2 s2 q2
   change run T m .atom (mostS T ((nks.length : Nat) : Int) 4 sk) = _ at q2
   obtain ⟨⟨e1, J1⟩, e2⟩ := ha m (by omega) _ _ _ (Ik.most _ _) q2
   simp -dsimp -implicitDefEqProofs only [go_sem, Nat.reduceAdd, Nat.reduceEqDiff, reduceIte, reduceCtorEq, Nat.reduceLeDiff, Nat.reduceLT, Nat.reduceSub, Int.reduceEq, Int.reduceLT, preH, OpK_alloc, ldCells, fillV, zeroN, zeroT, pcell, U2, P11, Z11_1, Z11_2, g0, g2, g7, g8, hesl]
   refine DoesK_of (most_call (o := o) (p := p) Ik (by first | exact P11 | (simp only [U2, upd_same, P11]; done) | (simp only [U2, upd_same, P11]; rfl) | rfl) (by omega) _ _) ?_
   rintro v st ⟨rfl, H12, C12, rfl, f12, P12⟩
   have F12 : Fr h c H12 C12 [p] := by
    refine Fr.trans ?_ f12 (by simp)
    refine Fr.more (c1 := C11) ?_ (by omega)
    repeat (first | exact F11 | refine Fr.upd (c1 := C11) ?_ _ (by first | (right; omega) | (left; simp; done)) (Nat.le_refl _))
   have L12 := F12.le
   have M12 := f12.le
   have Z12_1 : H12 (c) = some (.cells zeroN) := (f12.at (by omega) (by simp; omega)).trans (by first | (simp only [U2, upd_same, Z11_1]; done) | rfl | (simp only [U2, upd_same, Z11_1]; rfl))
   have Z12_2 : H12 (C1) = some (.cells [.int .i64 nk, .str nt, .int .i64 nn, .int .i64 na, .slice o1 (nns.map AV.str), .slice (oOf i) es]) := (f12.at (by omega) (by simp; omega)).trans (by first | (simp only [U2, upd_same, Z11_2]; done) | rfl | (simp only [U2, upd_same, Z11_2]; rfl))
   have RW12 := (RW11.more (Nat.le_refl _)).keep f12 (by simp; omega)
   simp -dsimp -implicitDefEqProofs only [go_sem, Nat.reduceAdd, Nat.reduceEqDiff, reduceIte, reduceCtorEq, Nat.reduceLeDiff, Nat.reduceLT, Nat.reduceSub, Int.reduceEq, Int.reduceLT, preH, OpK_alloc, ldCells, fillV, zeroN, zeroT, pcell, U2, P12, Z12_1, Z12_2, g0, g2, g7, g8, Aw_region1, OpsK_some1, OpsK_none1, OpsK_guard1, maskOf, List.flatMap_cons, List.flatMap_nil]
   refine DoesK_of (e2 _ _ _ (by first | exact P12 | (simp only [U2, upd_same, P12]; done) | (simp only [U2, upd_same, P12]; rfl) | rfl) (by omega)) ?_
   rintro v st ⟨N13, H13, C13, rfl, f13, P13⟩
   have F13 : Fr h c H13 C13 [p] := by
    refine Fr.trans ?_ f13 (by simp)
    refine Fr.more (c1 := C12) ?_ (by omega)
    repeat (first | exact F12 | refine Fr.upd (c1 := C12) ?_ _ (by first | (right; omega) | (left; simp; done)) (Nat.le_refl _))
   have L13 := F13.le
   have M13 := f13.le
   have Z13_1 : H13 (c) = some (.cells zeroN) := (f13.at (by omega) (by simp; omega)).trans (by first | (simp only [U2, upd_same, Z12_1]; done) | rfl | (simp only [U2, upd_same, Z12_1]; rfl))
   have Z13_2 : H13 (C1) = some (.cells [.int .i64 nk, .str nt, .int .i64 nn, .int .i64 na, .slice o1 (nns.map AV.str), .slice (oOf i) es]) := (f13.at (by omega) (by simp; omega)).trans (by first | (simp only [U2, upd_same, Z12_2]; done) | rfl | (simp only [U2, upd_same, Z12_2]; rfl))
   obtain ⟨o13a, o13b, es13, rfl, E13⟩ := N13.inv
   have RW13 : Row H13 C13 C1 i nks es := ((RW12).more (by omega)).keep f13 (by simp; omega)
   have hbig : nks.length ≤ 3000000000 := by omega
   have hone := RW13.one (b := C12) (d := []) (o := .full) (by omega) (by omega) N13 hbig
   have happ := hone.1
   have RW13a := hone.2
   clear hone
   have hj0 := RW13.id (b := C12) (by omega) (by omega)
   have hj1 := hj0.1
   have hj2 := hj0.2
   clear hj0
   generalize i.getD (C12) = j at happ RW13a hj1 hj2
   have u3_0 : ∀ h x, upd h (j) x (p) = h (p) := fun h x => upd_ne h x (by omega)
   have u0_3 : ∀ h x, upd h (p) x (j) = h (j) := fun h x => upd_ne h x (by omega)
   have u3_1 : ∀ h x, upd h (j) x (c) = h (c) := fun h x => upd_ne h x (by omega)
   have u1_3 : ∀ h x, upd h (c) x (j) = h (j) := fun h x => upd_ne h x (by omega)
   have u3_2 : ∀ h x, upd h (j) x (C1) = h (C1) := fun h x => upd_ne h x (by omega)
   have u2_3 : ∀ h x, upd h (C1) x (j) = h (j) := fun h x => upd_ne h x (by omega)
   have U3 : _ ∧ _ ∧ _ ∧ _ ∧ _ ∧ _ ∧ _ ∧ _ ∧ _ ∧ _ ∧ _ ∧ _ := ⟨u0_1, u0_2, u0_3, u1_0, u1_2, u1_3, u2_0, u2_1, u2_3, u3_0, u3_1, u3_2⟩
   simp -dsimp -implicitDefEqProofs only [go_sem, Nat.reduceAdd, Nat.reduceEqDiff, reduceIte, reduceCtorEq, Nat.reduceLeDiff, Nat.reduceLT, Nat.reduceSub, Int.reduceEq, Int.reduceLT, preH, OpK_alloc, ldCells, fillV, zeroN, zeroT, pcell, U3, P13, Z13_1, Z13_2, g0, g2, g7, g8, Aw_region1, OpsK_some1, OpsK_none1, OpsK_guard1, maskOf, List.flatMap_cons, List.flatMap_nil, partsV, happ]
   simp only [List.contains_cons, List.contains_nil, Nat.reduceBEq, Bool.or_false, Bool.or_true, Bool.false_or, Bool.true_or, Bool.false_eq_true, if_true, if_false, opKey, ldKey, ev_tmp, get_cons, Nat.reduceEqDiff, reduceIte, Stable_cons, Stable_nil, List.forall_mem_cons, and_true, true_and]
   refine ⟨by simp [g7, Z12_2, Z13_2], ?_⟩
   refine Again.of m (by omega) ⟨(Nd.mk nk nt nn na nns nks).add [n2], s2, some j, o1, _, _, _, by simp only [Nd.add, Nd.ks, List.length_append, List.length_cons, List.length_nil]; omega, hrk, J1, (by
     refine Fr.more (c1 := C13) ?_ (by omega)
     repeat (first | exact F13 | refine Fr.upd (c1 := C13) ?_ _ (by first | (right; omega) | (left; simp; done)) (Nat.le_refl _))), by omega, (by first | exact P13 | (simp only [U3, upd_same, P13]; done) | (simp only [U3, upd_same, P13]; rfl) | rfl), (by first | exact Z13_1 | (simp only [U3, upd_same, Z13_1]; done) | rfl), upd_same _ _ _, (RW13a.upd _ _ (by omega) (Nat.le_refl _)), g0, g2, g7, g8, rfl⟩
set_option maxHeartbeats 8000000 in
theorem app_call {f : Nat} (ha : ∀ m, m ≤ f → Reads T p o 93 (run T m .atom)) {s s' s1 : PS} {n n1 : Nd} (hi : Inv T s) (hk4 : (look T s).1.k ≠ 4) (hk : ¬ ((look T s).1.k = 6 ∧ (kindOf (look T s).1.t).1 > 0)) (h1 : run T f .atom s = some (n1, s1)) (hr : run T f (.appLoop false n1) s1 = some (n, s')) :
  ∀ h c d, h p = some (pcell o T s) → p < c → Does X 82 [.ptr p 0] ⟨h, c, d⟩ (NK p o T h c d n s') := by
 intro h c d hp hpc
 refine call_aw b82 rfl rfl rfl ?_; delta b82
 have hk4' : decide ((look T s).1.k = 4) = false := by simpa using hk4
 have hk0 : decide ((look T s).1.k = 6) = true → decide ((kindOf (look T s).1.t).1 > 0) = false := by
  intro e
  simp only [decide_eq_true_eq] at e
  simpa using fun e' => hk ⟨e, e'⟩
 obtain ⟨⟨d1, I1⟩, c1⟩ := ha f (Nat.le_refl _) _ _ _ hi h1
 have u1_0 : ∀ h x, upd h (c) x (p) = h (p) := fun h x => upd_ne h x (by omega)
 have u0_1 : ∀ h x, upd h (p) x (c) = h (c) := fun h x => upd_ne h x (by omega)
 have u2_0 : ∀ h x, upd h (c + 1) x (p) = h (p) := fun h x => upd_ne h x (by omega)
 have u0_2 : ∀ h x, upd h (p) x (c + 1) = h (c + 1) := fun h x => upd_ne h x (by omega)
 have u2_1 : ∀ h x, upd h (c + 1) x (c) = h (c) := fun h x => upd_ne h x (by omega)
 have u1_2 : ∀ h x, upd h (c) x (c + 1) = h (c + 1) := fun h x => upd_ne h x (by omega)
 have U4 : _ ∧ _ ∧ _ ∧ _ ∧ _ ∧ _ := ⟨u0_1, u0_2, u1_0, u1_2, u2_0, u2_1⟩
 simp -dsimp -implicitDefEqProofs only [go_sem, Nat.reduceAdd, Nat.reduceEqDiff, reduceIte, reduceCtorEq, Nat.reduceLeDiff, Nat.reduceLT, Nat.reduceSub, Int.reduceEq, Int.reduceLT, preH, OpK_alloc, ldCells, fillV, zeroN, zeroT, pcell, U4, hp]
 refine DoesK_of (look_call (s := s) (o := o) (p := p) hi (by first | exact hp | (simp only [U4, upd_same, hp]; done) | (simp only [U4, upd_same, hp]; rfl) | rfl) (by omega)) ?_
 rintro v st ⟨rfl, H1, C1, rfl, f1, P1⟩
 have F1 : Fr h c H1 C1 [p] := by
  refine Fr.trans ?_ f1 (by simp)
  refine Fr.more (c1 := c) ?_ (by omega)
  repeat (first | exact (Fr.refl h c [p]) | refine Fr.upd (c1 := c) ?_ _ (by first | (right; omega) | (left; simp; done)) (Nat.le_refl _))
 have L1 := F1.le
 have M1 := f1.le
 have Z1_1 : H1 (c) = some (.cells zeroN) := (f1.at (by omega) (by simp; omega)).trans (by first | (simp only [U4, upd_same]; done) | rfl | (simp only [U4, upd_same]; rfl))
 have Z1_2 : H1 (c + 1) = some (.cells zeroT) := (f1.at (by omega) (by simp; omega)).trans (by first | (simp only [U4, upd_same]; done) | rfl | (simp only [U4, upd_same]; rfl))
 simp -dsimp -implicitDefEqProofs only [go_sem, Nat.reduceAdd, Nat.reduceEqDiff, reduceIte, reduceCtorEq, Nat.reduceLeDiff, Nat.reduceLT, Nat.reduceSub, Int.reduceEq, Int.reduceLT, preH, OpK_alloc, ldCells, fillV, zeroN, zeroT, pcell, U4, P1, Z1_1, Z1_2, tkV, tokC, Z1_2]
 refine DoesK_of (kind_call (look T s).1.t _) ?_
 rintro v st ⟨rfl, rfl⟩
 cases hk6 : decide ((look T s).1.k = 6)
 all_goals
  try replace hk0 := hk0 hk6
  simp -dsimp -implicitDefEqProofs only [go_sem, Nat.reduceAdd, Nat.reduceEqDiff, reduceIte, reduceCtorEq, Nat.reduceLeDiff, Nat.reduceLT, Nat.reduceSub, Int.reduceEq, Int.reduceLT, preH, OpK_alloc, ldCells, fillV, zeroN, zeroT, pcell, U4, P1, Z1_1, hk6, hk0]
  have u3_0 : ∀ h x, upd h (C1) x (p) = h (p) := fun h x => upd_ne h x (by omega)
  have u0_3 : ∀ h x, upd h (p) x (C1) = h (C1) := fun h x => upd_ne h x (by omega)
  have u3_1 : ∀ h x, upd h (C1) x (c) = h (c) := fun h x => upd_ne h x (by omega)
  have u1_3 : ∀ h x, upd h (c) x (C1) = h (C1) := fun h x => upd_ne h x (by omega)
  have u3_2 : ∀ h x, upd h (C1) x (c + 1) = h (c + 1) := fun h x => upd_ne h x (by omega)
  have u2_3 : ∀ h x, upd h (c + 1) x (C1) = h (C1) := fun h x => upd_ne h x (by omega)
  have U5 : _ ∧ _ ∧ _ ∧ _ ∧ _ ∧ _ ∧ _ ∧ _ ∧ _ ∧ _ ∧ _ ∧ _ := ⟨u0_1, u0_2, u0_3, u1_0, u1_2, u1_3, u2_0, u2_1, u2_3, u3_0, u3_1, u3_2⟩
  refine DoesK_of (c1 _ _ _ (by first | exact P1 | (simp only [U5, upd_same, P1]; done) | (simp only [U5, upd_same, P1]; rfl) | rfl) (by omega)) ?_
  rintro v st ⟨N2, H2, C2, rfl, f2, P2⟩
  have F2 : Fr h c H2 C2 [p] := by
   refine Fr.trans ?_ f2 (by simp)
   refine Fr.more (c1 := C1) ?_ (by omega)
   repeat (first | exact F1 | refine Fr.upd (c1 := C1) ?_ _ (by first | (right; omega) | (left; simp; done)) (Nat.le_refl _))
  have L2 := F2.le
  have M2 := f2.le
  have Z2_1 : H2 (c) = some (.cells zeroN) := (f2.at (by omega) (by simp; omega)).trans (by first | (simp only [U5, upd_same, Z1_1]; done) | rfl | (simp only [U5, upd_same, Z1_1]; rfl))
  have Z2_2 : H2 (c + 1) = some (.cells [.int .i64 (look T s).1.k, .str (look T s).1.t, .int .i64 (look T s).1.n, .int .i64 ((look T s).2 : Int)]) := (f2.at (by omega) (by simp; omega)).trans (by first | (simp only [U5, upd_same]; done) | rfl | (simp only [U5, upd_same]; rfl))
  have Z2_3 : H2 (C1) = some (.cells zeroN) := (f2.at (by omega) (by simp; omega)).trans (by first | (simp only [U5, upd_same]; done) | rfl | (simp only [U5, upd_same]; rfl))
  obtain ⟨o2a, o2b, es2, rfl, E2⟩ := N2.inv
  simp -dsimp -implicitDefEqProofs only [go_sem, Nat.reduceAdd, Nat.reduceEqDiff, reduceIte, reduceCtorEq, Nat.reduceLeDiff, Nat.reduceLT, Nat.reduceSub, Int.reduceEq, Int.reduceLT, preH, OpK_alloc, ldCells, fillV, zeroN, zeroT, pcell, U5, P2, Z2_1, Z2_2, Aw_region1, OpsK_some1, OpsK_none1, OpsK_guard1, maskOf, List.flatMap_cons, List.flatMap_nil, hk4', Z2_3]
  let I : Nat → AEnv → ASt → Prop := fun m e st => ∃ (nd : Nd) (sk : PS) (l : List AV) (H : Hp) (C : Nat), m ≤ f ∧ run T m (.appLoop false nd) sk = some (n, s') ∧ Inv T sk ∧ Fr h c H C [p] ∧ C1 < C ∧ H p = some (pcell o T sk) ∧ H c = some (.cells zeroN) ∧
    H C1 = some (.cells l) ∧ NR nd (.agg l) ∧
    e.get 0 = .ptr p 0 ∧ e.get 2 = .ptr c 0 ∧ e.get 7 = .ptr C1 0 ∧ e.get 8 = .bool false ∧ st = ⟨H, C, []⟩
  refine LoopK_rule I f ⟨_, _, _, _, _, Nat.le_refl _, hr, I1, (by
    refine Fr.more (c1 := C2) ?_ (by omega)
    repeat (first | exact F2 | refine Fr.upd (c1 := C2) ?_ _ (by first | (right; omega) | (left; simp; done)) (Nat.le_refl _))), by omega, (by first | exact P2 | (simp only [U5, upd_same, P2]; done) | (simp only [U5, upd_same, P2]; rfl) | rfl), (by first | exact Z2_1 | (simp only [U5, upd_same, Z2_1]; done) | rfl), upd_same _ _ _, N2, rfl, rfl, rfl, rfl, rfl⟩ ?_
  rintro m e st ⟨nd, sk, l, H, C, hm, hrk, Ik, HF, hanC, HP, Zc, Zn, HN, g0, g2, g7, g8, rfl⟩
  obtain ⟨oa, ob, es, hl, E⟩ := HN.inv
  injection hl with hl
  subst hl
  cases m with
  | zero => cases hrk
  | succ m =>
   have hcC := HF.le
   have u1_0 : ∀ h x, upd h (c) x (p) = h (p) := fun h x => upd_ne h x (by omega)
   have u0_1 : ∀ h x, upd h (p) x (c) = h (c) := fun h x => upd_ne h x (by omega)
   have u2_0 : ∀ h x, upd h (C1) x (p) = h (p) := fun h x => upd_ne h x (by omega)
   have u0_2 : ∀ h x, upd h (p) x (C1) = h (C1) := fun h x => upd_ne h x (by omega)
   have u2_1 : ∀ h x, upd h (C1) x (c) = h (c) := fun h x => upd_ne h x (by omega)
   have u1_2 : ∀ h x, upd h (c) x (C1) = h (C1) := fun h x => upd_ne h x (by omega)
   have U6 : _ ∧ _ ∧ _ ∧ _ ∧ _ ∧ _ := ⟨u0_1, u0_2, u1_0, u1_2, u2_0, u2_1⟩
   rw [run_appLoop] at hrk
   simp -dsimp -implicitDefEqProofs only [go_sem, Nat.reduceAdd, Nat.reduceEqDiff, reduceIte, reduceCtorEq, Nat.reduceLeDiff, Nat.reduceLT, Nat.reduceSub, Int.reduceEq, Int.reduceLT, preH, OpK_alloc, ldCells, fillV, zeroN, zeroT, pcell, U6, HP, Zc, Zn, g0, g2, g7, g8]
   refine DoesK_of (begins_call (o := o) (p := p) Ik (by first | exact HP | (simp only [U6, upd_same, HP]; done) | (simp only [U6, upd_same, HP]; rfl) | rfl) (by omega)) ?_
   rintro v st ⟨rfl, H11, C11, rfl, f11, P11⟩
   have F11 : Fr h c H11 C11 [p] := by
    refine Fr.trans ?_ f11 (by simp)
    refine Fr.more (c1 := C) ?_ (by omega)
    repeat (first | exact HF | refine Fr.upd (c1 := C) ?_ _ (by first | (right; omega) | (left; simp; done)) (Nat.le_refl _))
   have L11 := F11.le
   have M11 := f11.le
   have Z11_1 : H11 (c) = some (.cells zeroN) := (f11.at (by omega) (by simp; omega)).trans (by first | (simp only [U6, upd_same, Zc]; done) | rfl | (simp only [U6, upd_same, Zc]; rfl))
   have Z11_2 : H11 (C1) = some (.cells [.int .i64 nd.k, .str nd.t, .int .i64 nd.n, .int .i64 nd.a, .slice oa (nd.ns.map AV.str), .slice ob es]) := (f11.at (by omega) (by simp; omega)).trans (by first | (simp only [U6, upd_same, Zn]; done) | rfl | (simp only [U6, upd_same, Zn]; rfl))
   cases hb : begins T sk
   ·rw [hb] at hrk
    rw [if_neg (by simp)] at hrk
    injection hrk with hrk; injection hrk with r1 r2
    subst r1; subst r2
    simp -dsimp -implicitDefEqProofs only [go_sem, Nat.reduceAdd, Nat.reduceEqDiff, reduceIte, reduceCtorEq, Nat.reduceLeDiff, Nat.reduceLT, Nat.reduceSub, Int.reduceEq, Int.reduceLT, preH, OpK_alloc, ldCells, fillV, zeroN, zeroT, pcell, U6, P11, Z11_1, Z11_2, g0, g2, g7, g8]
    exact ⟨HN, _, _, rfl, (by
      refine Fr.more (c1 := C11) ?_ (by omega)
      repeat (first | exact F11 | refine Fr.upd (c1 := C11) ?_ _ (by first | (right; omega) | (left; simp; done)) (Nat.le_refl _))), (by first | exact P11 | (simp only [U6, upd_same, P11]; done) | (simp only [U6, upd_same, P11]; rfl) | rfl)⟩
   ·rw [hb] at hrk
    rw [if_pos rfl] at hrk
    rw [if_neg (by simp)] at hrk
    split at hrk
    case h_2 => cases hrk
    rename_i n2 s2 q2
    obtain ⟨⟨e1, J1⟩, e2⟩ := ha m (by omega) _ _ _ Ik q2
    simp -dsimp -implicitDefEqProofs only [go_sem, Nat.reduceAdd, Nat.reduceEqDiff, reduceIte, reduceCtorEq, Nat.reduceLeDiff, Nat.reduceLT, Nat.reduceSub, Int.reduceEq, Int.reduceLT, preH, OpK_alloc, ldCells, fillV, zeroN, zeroT, pcell, U6, P11, Z11_1, Z11_2, g0, g2, g7, g8, Aw_region1, OpsK_some1, OpsK_none1, OpsK_guard1, maskOf, List.flatMap_cons, List.flatMap_nil]
    refine DoesK_of (e2 _ _ _ (by first | exact P11 | (simp only [U6, upd_same, P11]; done) | (simp only [U6, upd_same, P11]; rfl) | rfl) (by omega)) ?_
    rintro v st ⟨N12, H12, C12, rfl, f12, P12⟩
    have F12 : Fr h c H12 C12 [p] := by
     refine Fr.trans ?_ f12 (by simp)
     refine Fr.more (c1 := C11) ?_ (by omega)
     repeat (first | exact F11 | refine Fr.upd (c1 := C11) ?_ _ (by first | (right; omega) | (left; simp; done)) (Nat.le_refl _))
    have L12 := F12.le
    have M12 := f12.le
    have Z12_1 : H12 (c) = some (.cells zeroN) := (f12.at (by omega) (by simp; omega)).trans (by first | (simp only [U6, upd_same, Z11_1]; done) | rfl | (simp only [U6, upd_same, Z11_1]; rfl))
    have Z12_2 : H12 (C1) = some (.cells [.int .i64 nd.k, .str nd.t, .int .i64 nd.n, .int .i64 nd.a, .slice oa (nd.ns.map AV.str), .slice ob es]) := (f12.at (by omega) (by simp; omega)).trans (by first | (simp only [U6, upd_same, Z11_2]; done) | rfl | (simp only [U6, upd_same, Z11_2]; rfl))
    obtain ⟨o12a, o12b, es12, rfl, E12⟩ := N12.inv
    simp -dsimp -implicitDefEqProofs only [go_sem, Nat.reduceAdd, Nat.reduceEqDiff, reduceIte, reduceCtorEq, Nat.reduceLeDiff, Nat.reduceLT, Nat.reduceSub, Int.reduceEq, Int.reduceLT, preH, OpK_alloc, ldCells, fillV, zeroN, zeroT, pcell, U6, P12, Z12_1, Z12_2, g0, g2, g7, g8, Aw_region1, OpsK_some1, OpsK_none1, OpsK_guard1, maskOf, List.flatMap_cons, List.flatMap_nil, partsV]
    refine DoesK_of (node_call 7 _ _ .full _ _ _ _) ?_
    rintro v st ⟨rfl, H13, C13, rfl, f13⟩
    have F13 : Fr h c H13 C13 [p] := by
     refine Fr.trans ?_ f13 (by simp)
     refine Fr.more (c1 := C12) ?_ (by omega)
     repeat (first | exact F12 | refine Fr.upd (c1 := C12) ?_ _ (by first | (right; omega) | (left; simp; done)) (Nat.le_refl _))
    have L13 := F13.le
    have M13 := f13.le
    have P13 : H13 p = _ := (f13.at (by omega) (by simp)).trans (by first | exact P12 | (simp only [U6, upd_same, P12]; rfl))
    have Z13_1 : H13 (c) = some (.cells zeroN) := (f13.at (by omega) (by simp)).trans (by first | (simp only [U6, upd_same, Z12_1]; done) | rfl | (simp only [U6, upd_same, Z12_1]; rfl))
    have Z13_2 : H13 (C1) = some (.cells [.int .i64 nd.k, .str nd.t, .int .i64 nd.n, .int .i64 nd.a, .slice oa (nd.ns.map AV.str), .slice ob es]) := (f13.at (by omega) (by simp)).trans (by first | (simp only [U6, upd_same, Z12_2]; done) | rfl | (simp only [U6, upd_same, Z12_2]; rfl))
    simp -dsimp -implicitDefEqProofs only [go_sem, Nat.reduceAdd, Nat.reduceEqDiff, reduceIte, reduceCtorEq, Nat.reduceLeDiff, Nat.reduceLT, Nat.reduceSub, Int.reduceEq, Int.reduceLT, preH, OpK_alloc, ldCells, fillV, zeroN, zeroT, pcell, U6, P13, Z13_1, Z13_2, g0, g2, g7, g8, Aw_region1, OpsK_some1, OpsK_none1, OpsK_guard1, maskOf, List.flatMap_cons, List.flatMap_nil]
    simp only [List.contains_cons, List.contains_nil, Nat.reduceBEq, Bool.or_false, Bool.or_true, Bool.false_or, Bool.true_or, Bool.false_eq_true, if_true, if_false, opKey, ldKey, ev_tmp, get_cons, Nat.reduceEqDiff, reduceIte, Stable_cons, Stable_nil, List.forall_mem_cons, and_true, true_and]
    refine ⟨by simp [g7, Z11_2, Z12_2], ?_⟩
    refine Again.of m (by omega) ⟨node 7 nd.a [] [nd, n2], s2, _, _, _, by omega, hrk, J1, (by
      refine Fr.more (c1 := C13) ?_ (by omega)
      repeat (first | exact F13 | refine Fr.upd (c1 := C13) ?_ _ (by first | (right; omega) | (left; simp; done)) (Nat.le_refl _))), by omega, (by first | exact P13 | (simp only [U6, upd_same, P13]; done) | (simp only [U6, upd_same, P13]; rfl) | rfl), (by first | exact Z13_1 | (simp only [U6, upd_same, Z13_1]; done) | rfl), upd_same _ _ _, .mk rfl ((NRs.one HN).app (NRs.one N12)).2, g0, g2, g7, g8, rfl⟩
theorem app_reads {f : Nat} (hf : f ≤ 1000000000) (ha : ∀ m, m ≤ f → Reads T p o 93 (run T m .atom)) : Reads T p o 82 (run T (f + 1) .app) := by
 intro s n s' hi hr
 rw [run_app] at hr
 split at hr
 ·rename_i hk
  obtain ⟨d1, I1⟩ := kidsLoop_inv ha _ _ _ _ _ _ (Nat.le_refl _) hi.take hr
  exact ⟨⟨by rw [d1, take_deep], I1⟩, app_kids ha hi hk.1 hk.2 hr⟩
 ·rename_i hk
  dsimp only at hr
  split at hr
  case h_2 => cases hr
  rename_i n1 s1 g1
  obtain ⟨⟨d1, I1⟩, c1⟩ := ha f (Nat.le_refl _) _ _ _ hi g1
  obtain ⟨d2, I2⟩ := appLoop_inv ha _ _ _ _ _ _ (Nat.le_refl _) I1 hr
  refine ⟨⟨by rw [d2, d1], I2⟩, ?_⟩
  by_cases hk4 : (look T s).1.k = 4
  ·rw [show decide ((look T s).1.k = 4) = true by simpa using hk4] at hr
   exact app_bare hf ha hi hk4 g1 hr
  ·rw [show decide ((look T s).1.k = 4) = false by simpa using hk4] at hr
   exact app_call ha hi hk4 hk g1 hr
end
section
variable {T : List Tok} {p : Nat} {o : Own}
set_option maxHeartbeats 8000000 in
theorem try_reads {f : Nat} (hg : Reads T p o 35 (run T f .exp)) : Reads T p o 100 (run T (f + 1) .tryE) := by
 intro s n s' hi hr
 rw [run_tryE] at hr
 dsimp only at hr
 split at hr
 case h_2 => cases hr
 rename_i n1 s1 h1
 split at hr
 case h_2 => cases hr
 rename_i n2 s2 h2
 injection hr with hr; injection hr with r1 r2
 subst r1; subst r2
 have i0 := hi.take
 obtain ⟨⟨d1, I1⟩, c1⟩ := whole_reads hg i0 h1
 have i1 := I1.must wWith
 have i2 := i1.word 3
 have i3 := i2.take
 have i4 := i3.must wArrow
 obtain ⟨⟨d2, I2⟩, c2⟩ := whole_reads hg i4 h2
 refine ⟨⟨by rw [must_deep, d2, must_deep, take_deep, word_deep, must_deep, d1, take_deep], I2.must _⟩, fun h c d hp hpc => ?_⟩
 refine call_aw b100 rfl rfl rfl ?_; delta b100
 have u1_0 : ∀ h x, upd h (c) x (p) = h (p) := fun h x => upd_ne h x (by omega)
 have u0_1 : ∀ h x, upd h (p) x (c) = h (c) := fun h x => upd_ne h x (by omega)
 simp -dsimp -implicitDefEqProofs only [go_sem, Nat.reduceAdd, Nat.reduceEqDiff, reduceIte, reduceCtorEq, Nat.reduceLeDiff, Nat.reduceLT, Nat.reduceSub, Int.reduceEq, Int.reduceLT, preH, OpK_alloc, ldCells, fillV, zeroN, zeroT, pcell, u0_1, u1_0, hp]
 refine DoesK_of (take_call (o := o) (p := p) hi (by first | exact hp | (simp only [u0_1, u1_0, upd_same, hp]; done) | (simp only [u0_1, u1_0, upd_same, hp]; rfl) | rfl) (by omega)) ?_
 rintro v st ⟨rfl, H1, C1, rfl, f1, P1⟩
 have F1 : Fr h c H1 C1 [p] := by
  refine Fr.trans ?_ f1 (by simp)
  refine Fr.more (c1 := c) ?_ (by omega)
  repeat (first | exact (Fr.refl h c [p]) | refine Fr.upd (c1 := c) ?_ _ (by first | (right; omega) | (left; simp; done)) (Nat.le_refl _))
 have L1 := F1.le
 have M1 := f1.le
 have Z1_1 : H1 (c) = some (.cells zeroN) := (f1.at (by omega) (by simp; omega)).trans (by first | (simp only [u0_1, u1_0, upd_same]; done) | rfl | (simp only [u0_1, u1_0, upd_same]; rfl))
 simp -dsimp -implicitDefEqProofs only [go_sem, Nat.reduceAdd, Nat.reduceEqDiff, reduceIte, reduceCtorEq, Nat.reduceLeDiff, Nat.reduceLT, Nat.reduceSub, Int.reduceEq, Int.reduceLT, preH, OpK_alloc, ldCells, fillV, zeroN, zeroT, pcell, u0_1, u1_0, P1, Z1_1, fld_a]
 have u2_0 : ∀ h x, upd h (C1) x (p) = h (p) := fun h x => upd_ne h x (by omega)
 have u0_2 : ∀ h x, upd h (p) x (C1) = h (C1) := fun h x => upd_ne h x (by omega)
 have u2_1 : ∀ h x, upd h (C1) x (c) = h (c) := fun h x => upd_ne h x (by omega)
 have u1_2 : ∀ h x, upd h (c) x (C1) = h (C1) := fun h x => upd_ne h x (by omega)
 have U0 : _ ∧ _ ∧ _ ∧ _ ∧ _ ∧ _ := ⟨u0_1, u0_2, u1_0, u1_2, u2_0, u2_1⟩
 refine DoesK_of (c1 _ _ _ (by first | exact P1 | (simp only [U0, upd_same, P1]; done) | (simp only [U0, upd_same, P1]; rfl) | rfl) (by omega)) ?_
 rintro v st ⟨N2, H2, C2, rfl, f2, P2⟩
 have F2 : Fr h c H2 C2 [p] := by
  refine Fr.trans ?_ f2 (by simp)
  refine Fr.more (c1 := C1) ?_ (by omega)
  repeat (first | exact F1 | refine Fr.upd (c1 := C1) ?_ _ (by first | (right; omega) | (left; simp; done)) (Nat.le_refl _))
 have L2 := F2.le
 have M2 := f2.le
 have Z2_1 : H2 (c) = some (.cells zeroN) := (f2.at (by omega) (by simp; omega)).trans (by first | (simp only [U0, upd_same, Z1_1]; done) | rfl | (simp only [U0, upd_same, Z1_1]; rfl))
 have Z2_2 : H2 (C1) = some (.cells zeroN) := (f2.at (by omega) (by simp; omega)).trans (by first | (simp only [U0, upd_same]; done) | rfl | (simp only [U0, upd_same]; rfl))
 obtain ⟨o2a, o2b, es2, rfl, E2⟩ := N2.inv
 simp -dsimp -implicitDefEqProofs only [go_sem, Nat.reduceAdd, Nat.reduceEqDiff, reduceIte, reduceCtorEq, Nat.reduceLeDiff, Nat.reduceLT, Nat.reduceSub, Int.reduceEq, Int.reduceLT, preH, OpK_alloc, ldCells, fillV, zeroN, zeroT, pcell, U0, P2, Z2_1, Z2_2]
 refine DoesK_of (must_call (o := o) (p := p) I1 (by first | exact P2 | (simp only [U0, upd_same, P2]; done) | (simp only [U0, upd_same, P2]; rfl) | rfl) (by omega) wWith) ?_
 rintro v st ⟨rfl, H3, C3, rfl, f3, P3⟩
 have F3 : Fr h c H3 C3 [p] := by
  refine Fr.trans ?_ f3 (by simp)
  refine Fr.more (c1 := C2) ?_ (by omega)
  repeat (first | exact F2 | refine Fr.upd (c1 := C2) ?_ _ (by first | (right; omega) | (left; simp; done)) (Nat.le_refl _))
 have L3 := F3.le
 have M3 := f3.le
 have Z3_1 : H3 (c) = some (.cells zeroN) := (f3.at (by omega) (by simp; omega)).trans (by first | (simp only [U0, upd_same, Z2_1]; done) | rfl | (simp only [U0, upd_same, Z2_1]; rfl))
 have Z3_2 : H3 (C1) = some (.cells [.int .i64 n1.k, .str n1.t, .int .i64 n1.n, .int .i64 n1.a, .slice o2a (n1.ns.map AV.str), .slice o2b es2]) := (f3.at (by omega) (by simp; omega)).trans (by first | (simp only [U0, upd_same]; done) | rfl | (simp only [U0, upd_same]; rfl))
 simp -dsimp -implicitDefEqProofs only [go_sem, Nat.reduceAdd, Nat.reduceEqDiff, reduceIte, reduceCtorEq, Nat.reduceLeDiff, Nat.reduceLT, Nat.reduceSub, Int.reduceEq, Int.reduceLT, preH, OpK_alloc, ldCells, fillV, zeroN, zeroT, pcell, U0, P3, Z3_1, Z3_2]
 refine DoesK_of (word_call (o := o) (p := p) i1 (by first | exact P3 | (simp only [U0, upd_same, P3]; done) | (simp only [U0, upd_same, P3]; rfl) | rfl) (by omega) 3) ?_
 rintro v st ⟨rfl, H4, C4, rfl, f4, P4⟩
 have F4 : Fr h c H4 C4 [p] := by
  refine Fr.trans ?_ f4 (by simp)
  refine Fr.more (c1 := C3) ?_ (by omega)
  repeat (first | exact F3 | refine Fr.upd (c1 := C3) ?_ _ (by first | (right; omega) | (left; simp; done)) (Nat.le_refl _))
 have L4 := F4.le
 have M4 := f4.le
 have Z4_1 : H4 (c) = some (.cells zeroN) := (f4.at (by omega) (by simp; omega)).trans (by first | (simp only [U0, upd_same, Z3_1]; done) | rfl | (simp only [U0, upd_same, Z3_1]; rfl))
 have Z4_2 : H4 (C1) = some (.cells [.int .i64 n1.k, .str n1.t, .int .i64 n1.n, .int .i64 n1.a, .slice o2a (n1.ns.map AV.str), .slice o2b es2]) := (f4.at (by omega) (by simp; omega)).trans (by first | (simp only [U0, upd_same, Z3_2]; done) | rfl | (simp only [U0, upd_same, Z3_2]; rfl))
 simp -dsimp -implicitDefEqProofs only [go_sem, Nat.reduceAdd, Nat.reduceEqDiff, reduceIte, reduceCtorEq, Nat.reduceLeDiff, Nat.reduceLT, Nat.reduceSub, Int.reduceEq, Int.reduceLT, preH, OpK_alloc, ldCells, fillV, zeroN, zeroT, pcell, U0, P4, Z4_1, Z4_2, fld_t]
 refine DoesK_of (must_call (o := o) (p := p) i3 (by first | exact P4 | (simp only [U0, upd_same, P4]; done) | (simp only [U0, upd_same, P4]; rfl) | rfl) (by omega) wArrow) ?_
 rintro v st ⟨rfl, H5, C5, rfl, f5, P5⟩
 have F5 : Fr h c H5 C5 [p] := by
  refine Fr.trans ?_ f5 (by simp)
  refine Fr.more (c1 := C4) ?_ (by omega)
  repeat (first | exact F4 | refine Fr.upd (c1 := C4) ?_ _ (by first | (right; omega) | (left; simp; done)) (Nat.le_refl _))
 have L5 := F5.le
 have M5 := f5.le
 have Z5_1 : H5 (c) = some (.cells zeroN) := (f5.at (by omega) (by simp; omega)).trans (by first | (simp only [U0, upd_same, Z4_1]; done) | rfl | (simp only [U0, upd_same, Z4_1]; rfl))
 have Z5_2 : H5 (C1) = some (.cells [.int .i64 n1.k, .str n1.t, .int .i64 n1.n, .int .i64 n1.a, .slice o2a (n1.ns.map AV.str), .slice o2b es2]) := (f5.at (by omega) (by simp; omega)).trans (by first | (simp only [U0, upd_same, Z4_2]; done) | rfl | (simp only [U0, upd_same, Z4_2]; rfl))
 have u3_0 : ∀ h x, upd h (C5) x (p) = h (p) := fun h x => upd_ne h x (by omega)
 have u0_3 : ∀ h x, upd h (p) x (C5) = h (C5) := fun h x => upd_ne h x (by omega)
 have u3_1 : ∀ h x, upd h (C5) x (c) = h (c) := fun h x => upd_ne h x (by omega)
 have u1_3 : ∀ h x, upd h (c) x (C5) = h (C5) := fun h x => upd_ne h x (by omega)
 have u3_2 : ∀ h x, upd h (C5) x (C1) = h (C1) := fun h x => upd_ne h x (by omega)
 have u2_3 : ∀ h x, upd h (C1) x (C5) = h (C5) := fun h x => upd_ne h x (by omega)
 have U1 : _ ∧ _ ∧ _ ∧ _ ∧ _ ∧ _ ∧ _ ∧ _ ∧ _ ∧ _ ∧ _ ∧ _ := ⟨u0_1, u0_2, u0_3, u1_0, u1_2, u1_3, u2_0, u2_1, u2_3, u3_0, u3_1, u3_2⟩
 simp -dsimp -implicitDefEqProofs only [go_sem, Nat.reduceAdd, Nat.reduceEqDiff, reduceIte, reduceCtorEq, Nat.reduceLeDiff, Nat.reduceLT, Nat.reduceSub, Int.reduceEq, Int.reduceLT, preH, OpK_alloc, ldCells, fillV, zeroN, zeroT, pcell, U1, P5, Z5_1, Z5_2, Aw_region1, OpsK_some1, OpsK_none1, OpsK_guard1, maskOf, List.flatMap_cons, List.flatMap_nil]
 refine DoesK_of (c2 _ _ _ (by first | exact P5 | (simp only [U1, upd_same, P5]; done) | (simp only [U1, upd_same, P5]; rfl) | rfl) (by omega)) ?_
 rintro v st ⟨N6, H6, C6, rfl, f6, P6⟩
 have F6 : Fr h c H6 C6 [p] := by
  refine Fr.trans ?_ f6 (by simp)
  refine Fr.more (c1 := C5) ?_ (by omega)
  repeat (first | exact F5 | refine Fr.upd (c1 := C5) ?_ _ (by first | (right; omega) | (left; simp; done)) (Nat.le_refl _))
 have L6 := F6.le
 have M6 := f6.le
 have Z6_1 : H6 (c) = some (.cells zeroN) := (f6.at (by omega) (by simp; omega)).trans (by first | (simp only [U1, upd_same, Z5_1]; done) | rfl | (simp only [U1, upd_same, Z5_1]; rfl))
 have Z6_2 : H6 (C1) = some (.cells [.int .i64 n1.k, .str n1.t, .int .i64 n1.n, .int .i64 n1.a, .slice o2a (n1.ns.map AV.str), .slice o2b es2]) := (f6.at (by omega) (by simp; omega)).trans (by first | (simp only [U1, upd_same, Z5_2]; done) | rfl | (simp only [U1, upd_same, Z5_2]; rfl))
 have Z6_3 : H6 (C5) = some (.cells zeroN) := (f6.at (by omega) (by simp; omega)).trans (by first | (simp only [U1, upd_same]; done) | rfl | (simp only [U1, upd_same]; rfl))
 obtain ⟨o6a, o6b, es6, rfl, E6⟩ := N6.inv
 simp -dsimp -implicitDefEqProofs only [go_sem, Nat.reduceAdd, Nat.reduceEqDiff, reduceIte, reduceCtorEq, Nat.reduceLeDiff, Nat.reduceLT, Nat.reduceSub, Int.reduceEq, Int.reduceLT, preH, OpK_alloc, ldCells, fillV, zeroN, zeroT, pcell, U1, P6, Z6_1, Z6_2, Z6_3, Aw_region1, OpsK_some1, OpsK_none1, OpsK_guard1, maskOf, List.flatMap_cons, List.flatMap_nil, partsV]
 refine DoesK_of (node_call 12 _ _ .full _ _ _ _) ?_
 rintro v st ⟨rfl, H7, C7, rfl, f7⟩
 have F7 : Fr h c H7 C7 [p] := by
  refine Fr.trans ?_ f7 (by simp)
  refine Fr.more (c1 := C6) ?_ (by omega)
  repeat (first | exact F6 | refine Fr.upd (c1 := C6) ?_ _ (by first | (right; omega) | (left; simp; done)) (Nat.le_refl _))
 have L7 := F7.le
 have M7 := f7.le
 have P7 : H7 p = _ := (f7.at (by omega) (by simp)).trans (by first | exact P6 | (simp only [U1, upd_same, P6]; rfl))
 have Z7_1 : H7 (c) = some (.cells zeroN) := (f7.at (by omega) (by simp)).trans (by first | (simp only [U1, upd_same, Z6_1]; done) | rfl | (simp only [U1, upd_same, Z6_1]; rfl))
 have Z7_2 : H7 (C1) = some (.cells [.int .i64 n1.k, .str n1.t, .int .i64 n1.n, .int .i64 n1.a, .slice o2a (n1.ns.map AV.str), .slice o2b es2]) := (f7.at (by omega) (by simp)).trans (by first | (simp only [U1, upd_same, Z6_2]; done) | rfl | (simp only [U1, upd_same, Z6_2]; rfl))
 have Z7_3 : H7 (C5) = some (.cells zeroN) := (f7.at (by omega) (by simp)).trans (by first | (simp only [U1, upd_same, Z6_3]; done) | rfl | (simp only [U1, upd_same, Z6_3]; rfl))
 simp -dsimp -implicitDefEqProofs only [go_sem, Nat.reduceAdd, Nat.reduceEqDiff, reduceIte, reduceCtorEq, Nat.reduceLeDiff, Nat.reduceLT, Nat.reduceSub, Int.reduceEq, Int.reduceLT, preH, OpK_alloc, ldCells, fillV, zeroN, zeroT, pcell, U1, P7, Z7_1, Z7_2, Z7_3, Aw_region1, OpsK_some1, OpsK_none1, OpsK_guard1, maskOf, List.flatMap_cons, List.flatMap_nil]
 simp only [List.contains_cons, List.contains_nil, Nat.reduceBEq, Bool.or_false, Bool.or_true, Bool.false_or, Bool.true_or, Bool.false_eq_true, if_true, if_false, opKey, ldKey, ev_tmp, get_cons, Nat.reduceEqDiff, reduceIte, Stable_cons, Stable_nil, List.forall_mem_cons, and_true, true_and]
 refine ⟨by simp [Z5_2, Z6_2, Z7_2, Z6_3, Z7_3, upd_same, zeroN, U1], ?_⟩
 refine DoesK_of (must_call (o := o) (p := p) I2 (by first | exact P7 | (simp only [U1, upd_same, P7]; done) | (simp only [U1, upd_same, P7]; rfl) | rfl) (by omega) wEnd) ?_
 rintro v st ⟨rfl, H8, C8, rfl, f8, P8⟩
 have F8 : Fr h c H8 C8 [p] := by
  refine Fr.trans ?_ f8 (by simp)
  refine Fr.more (c1 := C7) ?_ (by omega)
  repeat (first | exact F7 | refine Fr.upd (c1 := C7) ?_ _ (by first | (right; omega) | (left; simp; done)) (Nat.le_refl _))
 have L8 := F8.le
 have M8 := f8.le
 have Z8_1 : H8 (c) = some (.cells zeroN) := (f8.at (by omega) (by simp; omega)).trans (by first | (simp only [U1, upd_same, Z7_1]; done) | rfl | (simp only [U1, upd_same, Z7_1]; rfl))
 have Z8_2 : H8 (C1) = some (.cells [.int .i64 n1.k, .str n1.t, .int .i64 n1.n, .int .i64 n1.a, .slice o2a (n1.ns.map AV.str), .slice o2b es2]) := (f8.at (by omega) (by simp; omega)).trans (by first | (simp only [U1, upd_same, Z7_2]; done) | rfl | (simp only [U1, upd_same, Z7_2]; rfl))
 have Z8_3 : H8 (C5) = some (.cells [.int .i64 12, .str (look T (wordS T 3 (mustS T wWith s1))).1.t, .int .i64 0, .int .i64 ((look T s).2 : Int), .slice .full [], .slice .full [.agg [.int .i64 n1.k, .str n1.t, .int .i64 n1.n, .int .i64 n1.a, .slice o2a (n1.ns.map AV.str), .slice o2b es2], .agg [.int .i64 n2.k, .str n2.t, .int .i64 n2.n, .int .i64 n2.a, .slice o6a (n2.ns.map AV.str), .slice o6b es6]]]) := (f8.at (by omega) (by simp; omega)).trans (by first | (simp only [U1, upd_same]; done) | rfl | (simp only [U1, upd_same]; rfl))
 simp -dsimp -implicitDefEqProofs only [go_sem, Nat.reduceAdd, Nat.reduceEqDiff, reduceIte, reduceCtorEq, Nat.reduceLeDiff, Nat.reduceLT, Nat.reduceSub, Int.reduceEq, Int.reduceLT, preH, OpK_alloc, ldCells, fillV, zeroN, zeroT, pcell, U1, P8, Z8_1, Z8_2, Z8_3]
 exact ⟨.mk rfl ((NRs.one N2).app (NRs.one N6)).2, _, _, rfl, (by
   refine Fr.more (c1 := C8) ?_ (by omega)
   repeat (first | exact F8 | refine Fr.upd (c1 := C8) ?_ _ (by first | (right; omega) | (left; simp; done)) (Nat.le_refl _))), (by first | exact P8 | (simp only [U1, upd_same, P8]; done) | (simp only [U1, upd_same, P8]; rfl) | rfl)⟩
end
section
variable {T : List Tok} {p : Nat} {o : Own}
theorem matchLoop_inv {f : Nat} (hp : ∀ m, m ≤ f → Reads T p o 107 (run T m .pat)) (hg : ∀ m, m ≤ f → Reads T p o 35 (run T m .exp)) : ∀ (q : Nat) (first : Bool) (nd : Nd) (s : PS) (n : Nd) (s' : PS), q ≤ f → Inv T s → run T q (.matchLoop nd first) s = some (n, s') → s'.deep = s.deep ∧ Inv T s' := by
 intro q
 induction q with
 | zero => intro _ nd s n s' hq hi hr; cases hr
 | succ q ih =>
  intro first nd s n s' hq hi hr
  rw [run_matchLoop] at hr
  split at hr
  ·split at hr
   case h_2 => cases hr
   rename_i n1 s1 g1
   split at hr
   case h_2 => cases hr
   rename_i n2 s2 g2
   obtain ⟨⟨d1, I1⟩, _⟩ := in_reads (hp q (by omega)) ((hi.most _ _).must _) g1
   obtain ⟨⟨d2, I2⟩, _⟩ := whole_reads (hg q (by omega)) (I1.must _) g2
   obtain ⟨d3, I3⟩ := ih _ _ _ _ _ (by omega) I2 hr
   exact ⟨by rw [d3, d2, must_deep, d1, must_deep, most_deep], I3⟩
  ·injection hr with hr; injection hr with r1 r2
   subst r2; exact ⟨rfl, hi⟩
set_option maxHeartbeats 8000000 in
theorem match_reads {f : Nat} (hf : f ≤ 1000000000) (hp : ∀ m, m ≤ f → Reads T p o 107 (run T m .pat)) (hg : ∀ m, m ≤ f → Reads T p o 35 (run T m .exp)) : Reads T p o 99 (run T (f + 1) .matchE) := by
 intro s n s' hi hr
 rw [run_matchE] at hr
 dsimp only at hr
 split at hr
 case h_2 => cases hr
 rename_i n1 s1 h1
 split at hr
 case h_2 => cases hr
 rename_i n2 s2 h2
 injection hr with hr; injection hr with r1 r2
 subst r1; subst r2
 have i0 := hi.take
 obtain ⟨⟨d1, I1⟩, c1⟩ := whole_reads (hg f (Nat.le_refl _)) i0 h1
 obtain ⟨d2, I2⟩ := matchLoop_inv hp hg _ _ _ _ _ _ (Nat.le_refl _) (I1.must wWith) h2
 refine ⟨⟨by rw [must_deep, d2, must_deep, d1, take_deep], I2.must _⟩, fun h c d hp0 hpc => ?_⟩
 refine call_aw b99 rfl rfl rfl ?_; delta b99
 have u1_0 : ∀ h x, upd h (c) x (p) = h (p) := fun h x => upd_ne h x (by omega)
 have u0_1 : ∀ h x, upd h (p) x (c) = h (c) := fun h x => upd_ne h x (by omega)
 simp -dsimp -implicitDefEqProofs only [go_sem, Nat.reduceAdd, Nat.reduceEqDiff, reduceIte, reduceCtorEq, Nat.reduceLeDiff, Nat.reduceLT, Nat.reduceSub, Int.reduceEq, Int.reduceLT, preH, OpK_alloc, ldCells, fillV, zeroN, zeroT, pcell, u0_1, u1_0, hp0]
 refine DoesK_of (take_call (o := o) (p := p) hi (by first | exact hp0 | (simp only [u0_1, u1_0, upd_same, hp0]; done) | (simp only [u0_1, u1_0, upd_same, hp0]; rfl) | rfl) (by omega)) ?_
 rintro v st ⟨rfl, H1, C1, rfl, f1, P1⟩
 have F1 : Fr h c H1 C1 [p] := by
  refine Fr.trans ?_ f1 (by simp)
  refine Fr.more (c1 := c) ?_ (by omega)
  repeat (first | exact (Fr.refl h c [p]) | refine Fr.upd (c1 := c) ?_ _ (by first | (right; omega) | (left; simp; done)) (Nat.le_refl _))
 have L1 := F1.le
 have M1 := f1.le
 have Z1_1 : H1 (c) = some (.cells zeroN) := (f1.at (by omega) (by simp; omega)).trans (by first | (simp only [u0_1, u1_0, upd_same]; done) | rfl | (simp only [u0_1, u1_0, upd_same]; rfl))
 simp -dsimp -implicitDefEqProofs only [go_sem, Nat.reduceAdd, Nat.reduceEqDiff, reduceIte, reduceCtorEq, Nat.reduceLeDiff, Nat.reduceLT, Nat.reduceSub, Int.reduceEq, Int.reduceLT, preH, OpK_alloc, ldCells, fillV, zeroN, zeroT, pcell, u0_1, u1_0, P1, Z1_1, fld_a]
 have u2_0 : ∀ h x, upd h (C1) x (p) = h (p) := fun h x => upd_ne h x (by omega)
 have u0_2 : ∀ h x, upd h (p) x (C1) = h (C1) := fun h x => upd_ne h x (by omega)
 have u2_1 : ∀ h x, upd h (C1) x (c) = h (c) := fun h x => upd_ne h x (by omega)
 have u1_2 : ∀ h x, upd h (c) x (C1) = h (C1) := fun h x => upd_ne h x (by omega)
 have U0 : _ ∧ _ ∧ _ ∧ _ ∧ _ ∧ _ := ⟨u0_1, u0_2, u1_0, u1_2, u2_0, u2_1⟩
 refine DoesK_of (c1 _ _ _ (by first | exact P1 | (simp only [U0, upd_same, P1]; done) | (simp only [U0, upd_same, P1]; rfl) | rfl) (by omega)) ?_
 rintro v st ⟨N2, H2, C2, rfl, f2, P2⟩
 have F2 : Fr h c H2 C2 [p] := by
  refine Fr.trans ?_ f2 (by simp)
  refine Fr.more (c1 := C1) ?_ (by omega)
  repeat (first | exact F1 | refine Fr.upd (c1 := C1) ?_ _ (by first | (right; omega) | (left; simp; done)) (Nat.le_refl _))
 have L2 := F2.le
 have M2 := f2.le
 have Z2_1 : H2 (c) = some (.cells zeroN) := (f2.at (by omega) (by simp; omega)).trans (by first | (simp only [U0, upd_same, Z1_1]; done) | rfl | (simp only [U0, upd_same, Z1_1]; rfl))
 have Z2_2 : H2 (C1) = some (.cells zeroN) := (f2.at (by omega) (by simp; omega)).trans (by first | (simp only [U0, upd_same]; done) | rfl | (simp only [U0, upd_same]; rfl))
 obtain ⟨o2a, o2b, es2, rfl, E2⟩ := N2.inv
 simp -dsimp -implicitDefEqProofs only [go_sem, Nat.reduceAdd, Nat.reduceEqDiff, reduceIte, reduceCtorEq, Nat.reduceLeDiff, Nat.reduceLT, Nat.reduceSub, Int.reduceEq, Int.reduceLT, preH, OpK_alloc, ldCells, fillV, zeroN, zeroT, pcell, U0, P2, Z2_1, Z2_2, partsV]
 refine DoesK_of (node_call 11 _ _ .full _ _ _ _) ?_
 rintro v st ⟨rfl, H3, C3, rfl, f3⟩
 have F3 : Fr h c H3 C3 [p] := by
  refine Fr.trans ?_ f3 (by simp)
  refine Fr.more (c1 := C2) ?_ (by omega)
  repeat (first | exact F2 | refine Fr.upd (c1 := C2) ?_ _ (by first | (right; omega) | (left; simp; done)) (Nat.le_refl _))
 have L3 := F3.le
 have M3 := f3.le
 have P3 : H3 p = _ := (f3.at (by omega) (by simp)).trans (by first | exact P2 | (simp only [U0, upd_same, P2]; rfl))
 have Z3_1 : H3 (c) = some (.cells zeroN) := (f3.at (by omega) (by simp)).trans (by first | (simp only [U0, upd_same, Z2_1]; done) | rfl | (simp only [U0, upd_same, Z2_1]; rfl))
 have Z3_2 : H3 (C1) = some (.cells zeroN) := (f3.at (by omega) (by simp)).trans (by first | (simp only [U0, upd_same, Z2_2]; done) | rfl | (simp only [U0, upd_same, Z2_2]; rfl))
 simp -dsimp -implicitDefEqProofs only [go_sem, Nat.reduceAdd, Nat.reduceEqDiff, reduceIte, reduceCtorEq, Nat.reduceLeDiff, Nat.reduceLT, Nat.reduceSub, Int.reduceEq, Int.reduceLT, preH, OpK_alloc, ldCells, fillV, zeroN, zeroT, pcell, U0, P3, Z3_1, Z3_2]
 refine DoesK_of (must_call (o := o) (p := p) I1 (by first | exact P3 | (simp only [U0, upd_same, P3]; done) | (simp only [U0, upd_same, P3]; rfl) | rfl) (by omega) wWith) ?_
 rintro v st ⟨rfl, H4, C4, rfl, f4, P4⟩
 have F4 : Fr h c H4 C4 [p] := by
  refine Fr.trans ?_ f4 (by simp)
  refine Fr.more (c1 := C3) ?_ (by omega)
  repeat (first | exact F3 | refine Fr.upd (c1 := C3) ?_ _ (by first | (right; omega) | (left; simp; done)) (Nat.le_refl _))
 have L4 := F4.le
 have M4 := f4.le
 have Z4_1 : H4 (c) = some (.cells zeroN) := (f4.at (by omega) (by simp; omega)).trans (by first | (simp only [U0, upd_same, Z3_1]; done) | rfl | (simp only [U0, upd_same, Z3_1]; rfl))
 have Z4_2 : H4 (C1) = some (.cells [.int .i64 11, .str [], .int .i64 0, .int .i64 ((look T s).2 : Int), .slice .full [], .slice .full [.agg [.int .i64 n1.k, .str n1.t, .int .i64 n1.n, .int .i64 n1.a, .slice o2a (n1.ns.map AV.str), .slice o2b es2]]]) := (f4.at (by omega) (by simp; omega)).trans (by first | (simp only [U0, upd_same]; done) | rfl | (simp only [U0, upd_same]; rfl))
 simp -dsimp -implicitDefEqProofs only [go_sem, Nat.reduceAdd, Nat.reduceEqDiff, reduceIte, reduceCtorEq, Nat.reduceLeDiff, Nat.reduceLT, Nat.reduceSub, Int.reduceEq, Int.reduceLT, preH, OpK_alloc, ldCells, fillV, zeroN, zeroT, pcell, U0, P4, Z4_1, Z4_2]
 let I : Nat → AEnv → ASt → Prop := fun m e st => ∃ (first : Bool) (nd : Nd) (sk : PS) (i : Option Nat) (o1 : Own) (es : List AV) (H : Hp) (C : Nat), nd.ks.length + 2 * m ≤ 2 * f + 1 ∧ m ≤ f ∧ run T m (.matchLoop nd first) sk = some (n2, s2) ∧ Inv T sk ∧ Fr h c H C [p] ∧ C1 < C ∧ H p = some (pcell o T sk) ∧ H c = some (.cells zeroN) ∧
   H C1 = some (.cells [.int .i64 nd.k, .str nd.t, .int .i64 nd.n, .int .i64 nd.a, .slice o1 (nd.ns.map AV.str), .slice (oOf i) es]) ∧ Row H C C1 i nd.ks es ∧
   e.get 0 = .ptr p 0 ∧ e.get 2 = .ptr c 0 ∧ e.get 4 = .ptr C1 0 ∧ e.get 5 = .bool first ∧ st = ⟨H, C, []⟩
 refine LoopK_rule I f ⟨true, _, _, none, .full, [_], _, _, (by simp only [node, Nd.ks, List.length_cons, List.length_nil]; omega), Nat.le_refl _, h2, I1.must wWith, (by
   refine Fr.more (c1 := C4) ?_ (by omega)
   repeat (first | exact F4 | refine Fr.upd (c1 := C4) ?_ _ (by first | (right; omega) | (left; simp; done)) (Nat.le_refl _))), by omega, (by first | exact P4 | (simp only [U0, upd_same, P4]; done) | (simp only [U0, upd_same, P4]; rfl) | rfl), (by first | exact Z4_1 | (simp only [U0, upd_same, Z4_1]; done) | rfl), (by first | exact Z4_2 | (simp only [U0, upd_same, Z4_2]; done) | rfl), Row.ofFull (NRs.one N2), rfl, rfl, rfl, rfl, rfl⟩ ?_
 rintro m e st ⟨first, ⟨nk, nt, nn, na, nns, nks⟩, sk, i, o1, es, H, C, hm, hmf, hrk, Ik, HF, hanC, HP, Zc, Zn, RW, g0, g2, g4, g5, rfl⟩
 replace Zn : H C1 = some (.cells [.int .i64 nk, .str nt, .int .i64 nn, .int .i64 na, .slice o1 (nns.map AV.str), .slice (oOf i) es]) := Zn
 replace RW : Row H C C1 i nks es := RW
 replace hm : nks.length + 2 * m ≤ 2 * f + 1 := hm
 have hesl := RW.nr.1
 cases m with
 | zero => cases hrk
 | succ m =>
  have hcC := HF.le
  have u1_0 : ∀ h x, upd h (c) x (p) = h (p) := fun h x => upd_ne h x (by omega)
  have u0_1 : ∀ h x, upd h (p) x (c) = h (c) := fun h x => upd_ne h x (by omega)
  have u2_0 : ∀ h x, upd h (C1) x (p) = h (p) := fun h x => upd_ne h x (by omega)
  have u0_2 : ∀ h x, upd h (p) x (C1) = h (C1) := fun h x => upd_ne h x (by omega)
  have u2_1 : ∀ h x, upd h (C1) x (c) = h (c) := fun h x => upd_ne h x (by omega)
  have u1_2 : ∀ h x, upd h (c) x (C1) = h (C1) := fun h x => upd_ne h x (by omega)
  have U1 : _ ∧ _ ∧ _ ∧ _ ∧ _ ∧ _ := ⟨u0_1, u0_2, u1_0, u1_2, u2_0, u2_1⟩
  rw [run_matchLoop] at hrk
  cases first
  rotate_left
  rw [if_pos (by simp)] at hrk
  simp -dsimp -implicitDefEqProofs only [go_sem, Nat.reduceAdd, Nat.reduceEqDiff, reduceIte, reduceCtorEq, Nat.reduceLeDiff, Nat.reduceLT, Nat.reduceSub, Int.reduceEq, Int.reduceLT, preH, OpK_alloc, ldCells, fillV, zeroN, zeroT, pcell, U1, HP, Zc, Zn, g0, g2, g4, g5]
  have LX : c < C ∧ C1 < C := ⟨by omega, by omega⟩
  have FX := HF
  have PX := HP
  have ZX0 := Zc
  have ZX1 := Zn
  have RX := RW
  obtain ⟨HX, hX⟩ : ∃ x, x = H := ⟨_, rfl⟩
  obtain ⟨CX, hX2⟩ : ∃ x, x = C := ⟨_, rfl⟩
  subst hX; subst hX2
  rotate_left
  simp -dsimp -implicitDefEqProofs only [go_sem, Nat.reduceAdd, Nat.reduceEqDiff, reduceIte, reduceCtorEq, Nat.reduceLeDiff, Nat.reduceLT, Nat.reduceSub, Int.reduceEq, Int.reduceLT, preH, OpK_alloc, ldCells, fillV, zeroN, zeroT, pcell, U1, HP, Zc, Zn, g0, g2, g4, g5]
  refine DoesK_of (isw_call (o := o) (p := p) Ik (by first | exact HP | (simp only [U1, upd_same, HP]; done) | (simp only [U1, upd_same, HP]; rfl) | rfl) (by omega) [124]) ?_
  rintro v st ⟨rfl, H11, C11, rfl, f11, P11⟩
  have F11 : Fr h c H11 C11 [p] := by
   refine Fr.trans ?_ f11 (by simp)
   refine Fr.more (c1 := C) ?_ (by omega)
   repeat (first | exact HF | refine Fr.upd (c1 := C) ?_ _ (by first | (right; omega) | (left; simp; done)) (Nat.le_refl _))
  have L11 := F11.le
  have M11 := f11.le
  have Z11_1 : H11 (c) = some (.cells zeroN) := (f11.at (by omega) (by simp; omega)).trans (by first | (simp only [U1, upd_same, Zc]; done) | rfl | (simp only [U1, upd_same, Zc]; rfl))
  have Z11_2 : H11 (C1) = some (.cells [.int .i64 nk, .str nt, .int .i64 nn, .int .i64 na, .slice o1 (nns.map AV.str), .slice (oOf i) es]) := (f11.at (by omega) (by simp; omega)).trans (by first | (simp only [U1, upd_same, Zn]; done) | rfl | (simp only [U1, upd_same, Zn]; rfl))
  have RW11 := (RW.more (Nat.le_refl _)).keep f11 (by simp; omega)
  cases hb : isW T [124] sk
  ·rw [hb] at hrk
   rw [if_neg (by simp)] at hrk
   injection hrk with hrk; injection hrk with r1 r2
   subst r1; subst r2
   simp -dsimp -implicitDefEqProofs only [go_sem, Nat.reduceAdd, Nat.reduceEqDiff, reduceIte, reduceCtorEq, Nat.reduceLeDiff, Nat.reduceLT, Nat.reduceSub, Int.reduceEq, Int.reduceLT, preH, OpK_alloc, ldCells, fillV, zeroN, zeroT, pcell, U1, P11, Z11_1, Z11_2, g0, g2, g4, g5]
   refine DoesK_of (must_call (o := o) (p := p) Ik (by first | exact P11 | (simp only [U1, upd_same, P11]; done) | (simp only [U1, upd_same, P11]; rfl) | rfl) (by omega) wEnd) ?_
   rintro v st ⟨rfl, H12, C12, rfl, f12, P12⟩
   have F12 : Fr h c H12 C12 [p] := by
    refine Fr.trans ?_ f12 (by simp)
    refine Fr.more (c1 := C11) ?_ (by omega)
    repeat (first | exact F11 | refine Fr.upd (c1 := C11) ?_ _ (by first | (right; omega) | (left; simp; done)) (Nat.le_refl _))
   have L12 := F12.le
   have M12 := f12.le
   have Z12_1 : H12 (c) = some (.cells zeroN) := (f12.at (by omega) (by simp; omega)).trans (by first | (simp only [U1, upd_same, Z11_1]; done) | rfl | (simp only [U1, upd_same, Z11_1]; rfl))
   have Z12_2 : H12 (C1) = some (.cells [.int .i64 nk, .str nt, .int .i64 nn, .int .i64 na, .slice o1 (nns.map AV.str), .slice (oOf i) es]) := (f12.at (by omega) (by simp; omega)).trans (by first | (simp only [U1, upd_same, Z11_2]; done) | rfl | (simp only [U1, upd_same, Z11_2]; rfl))
   have RW12 := (RW11.more (Nat.le_refl _)).keep f12 (by simp; omega)
   simp -dsimp -implicitDefEqProofs only [go_sem, Nat.reduceAdd, Nat.reduceEqDiff, reduceIte, reduceCtorEq, Nat.reduceLeDiff, Nat.reduceLT, Nat.reduceSub, Int.reduceEq, Int.reduceLT, preH, OpK_alloc, ldCells, fillV, zeroN, zeroT, pcell, U1, P12, Z12_1, Z12_2, g0, g2, g4, g5]
   exact ⟨RW12.node _ _ _ _ _ _, _, _, rfl, (by
     refine Fr.more (c1 := C12) ?_ (by omega)
     repeat (first | exact F12 | refine Fr.upd (c1 := C12) ?_ _ (by first | (right; omega) | (left; simp; done)) (Nat.le_refl _))), (by first | exact P12 | (simp only [U1, upd_same, P12]; done) | (simp only [U1, upd_same, P12]; rfl) | rfl)⟩
  rw [hb] at hrk
  rw [if_pos (by simp)] at hrk
  simp -dsimp -implicitDefEqProofs only [go_sem, Nat.reduceAdd, Nat.reduceEqDiff, reduceIte, reduceCtorEq, Nat.reduceLeDiff, Nat.reduceLT, Nat.reduceSub, Int.reduceEq, Int.reduceLT, preH, OpK_alloc, ldCells, fillV, zeroN, zeroT, pcell, U1, P11, Z11_1, Z11_2, g0, g2, g4, g5]
  have LX : c < C11 ∧ C1 < C11 := ⟨by omega, by omega⟩
  have FX := F11
  have PX := P11
  have ZX0 := Z11_1
  have ZX1 := Z11_2
  have RX := RW11
  obtain ⟨HX, hX⟩ : ∃ x, x = H11 := ⟨_, rfl⟩
  obtain ⟨CX, hX2⟩ : ∃ x, x = C11 := ⟨_, rfl⟩
  subst hX; subst hX2
  all_goals
   obtain ⟨LX0, LX1⟩ := LX
   have u1_0 : ∀ h x, upd h (c) x (p) = h (p) := fun h x => upd_ne h x (by omega)
   have u0_1 : ∀ h x, upd h (p) x (c) = h (c) := fun h x => upd_ne h x (by omega)
   have u2_0 : ∀ h x, upd h (C1) x (p) = h (p) := fun h x => upd_ne h x (by omega)
   have u0_2 : ∀ h x, upd h (p) x (C1) = h (C1) := fun h x => upd_ne h x (by omega)
   have u2_1 : ∀ h x, upd h (C1) x (c) = h (c) := fun h x => upd_ne h x (by omega)
   have u1_2 : ∀ h x, upd h (c) x (C1) = h (C1) := fun h x => upd_ne h x (by omega)
   have U2 : _ ∧ _ ∧ _ ∧ _ ∧ _ ∧ _ := ⟨u0_1, u0_2, u1_0, u1_2, u2_0, u2_1⟩
   split at hrk
   case h_2 => cases hrk
   rename_i n3 s3 q3
   split at hrk
   case h_2 => cases hrk
   rename_i n4 s4 q4
   change inR T (run T m .pat) (mustS T [124] (mostS T ((nks.length / 2 : Nat) : Int) 20 sk)) = _ at q3
   obtain ⟨⟨e3, J3⟩, c3⟩ := in_reads (hp m (by omega)) ((Ik.most _ _).must _) q3
   obtain ⟨⟨e4, J4⟩, c4⟩ := whole_reads (hg m (by omega)) (J3.must wArrow) q4
   have hquo : Int.tdiv ((nks.length : Nat) : Int) 2 = ((nks.length / 2 : Nat) : Int) := rfl
   have hquo2 : IntKind.wrap .i64 ((nks.length / 2 : Nat) : Int) = ((nks.length / 2 : Nat) : Int) := wrap_i64 (by omega) (by omega)
   simp -dsimp -implicitDefEqProofs only [go_sem, Nat.reduceAdd, Nat.reduceEqDiff, reduceIte, reduceCtorEq, Nat.reduceLeDiff, Nat.reduceLT, Nat.reduceSub, Int.reduceEq, Int.reduceLT, preH, OpK_alloc, ldCells, fillV, zeroN, zeroT, pcell, U2, PX, ZX0, ZX1, g0, g2, g4, hesl, hquo, hquo2]
   refine DoesK_of (most_call (o := o) (p := p) Ik (by first | exact PX | (simp only [U2, upd_same, PX]; done) | (simp only [U2, upd_same, PX]; rfl) | rfl) (by omega) _ _) ?_
   rintro v st ⟨rfl, H21, C21, rfl, f21, P21⟩
   have F21 : Fr h c H21 C21 [p] := by
    refine Fr.trans ?_ f21 (by simp)
    refine Fr.more (c1 := CX) ?_ (by omega)
    repeat (first | exact FX | refine Fr.upd (c1 := CX) ?_ _ (by first | (right; omega) | (left; simp; done)) (Nat.le_refl _))
   have L21 := F21.le
   have M21 := f21.le
   have Z21_1 : H21 (c) = some (.cells zeroN) := (f21.at (by omega) (by simp; omega)).trans (by first | (simp only [U2, upd_same, ZX0]; done) | rfl | (simp only [U2, upd_same, ZX0]; rfl))
   have Z21_2 : H21 (C1) = some (.cells [.int .i64 nk, .str nt, .int .i64 nn, .int .i64 na, .slice o1 (nns.map AV.str), .slice (oOf i) es]) := (f21.at (by omega) (by simp; omega)).trans (by first | (simp only [U2, upd_same, ZX1]; done) | rfl | (simp only [U2, upd_same, ZX1]; rfl))
   have RW21 := (RX.more (by omega)).keep f21 (by simp; omega)
   simp -dsimp -implicitDefEqProofs only [go_sem, Nat.reduceAdd, Nat.reduceEqDiff, reduceIte, reduceCtorEq, Nat.reduceLeDiff, Nat.reduceLT, Nat.reduceSub, Int.reduceEq, Int.reduceLT, preH, OpK_alloc, ldCells, fillV, zeroN, zeroT, pcell, U2, P21, Z21_1, Z21_2, g0, g2, g4]
   refine DoesK_of (must_call (o := o) (p := p) (Ik.most _ _) (by first | exact P21 | (simp only [U2, upd_same, P21]; done) | (simp only [U2, upd_same, P21]; rfl) | rfl) (by omega) [124]) ?_
   rintro v st ⟨rfl, H22, C22, rfl, f22, P22⟩
   have F22 : Fr h c H22 C22 [p] := by
    refine Fr.trans ?_ f22 (by simp)
    refine Fr.more (c1 := C21) ?_ (by omega)
    repeat (first | exact F21 | refine Fr.upd (c1 := C21) ?_ _ (by first | (right; omega) | (left; simp; done)) (Nat.le_refl _))
   have L22 := F22.le
   have M22 := f22.le
   have Z22_1 : H22 (c) = some (.cells zeroN) := (f22.at (by omega) (by simp; omega)).trans (by first | (simp only [U2, upd_same, Z21_1]; done) | rfl | (simp only [U2, upd_same, Z21_1]; rfl))
   have Z22_2 : H22 (C1) = some (.cells [.int .i64 nk, .str nt, .int .i64 nn, .int .i64 na, .slice o1 (nns.map AV.str), .slice (oOf i) es]) := (f22.at (by omega) (by simp; omega)).trans (by first | (simp only [U2, upd_same, Z21_2]; done) | rfl | (simp only [U2, upd_same, Z21_2]; rfl))
   have RW22 := (RW21.more (by omega)).keep f22 (by simp; omega)
   simp -dsimp -implicitDefEqProofs only [go_sem, Nat.reduceAdd, Nat.reduceEqDiff, reduceIte, reduceCtorEq, Nat.reduceLeDiff, Nat.reduceLT, Nat.reduceSub, Int.reduceEq, Int.reduceLT, preH, OpK_alloc, ldCells, fillV, zeroN, zeroT, pcell, U2, P22, Z22_1, Z22_2, g0, g2, g4]
   have u3_0 : ∀ h x, upd h (C22) x (p) = h (p) := fun h x => upd_ne h x (by omega)
   have u0_3 : ∀ h x, upd h (p) x (C22) = h (C22) := fun h x => upd_ne h x (by omega)
   have u3_1 : ∀ h x, upd h (C22) x (c) = h (c) := fun h x => upd_ne h x (by omega)
   have u1_3 : ∀ h x, upd h (c) x (C22) = h (C22) := fun h x => upd_ne h x (by omega)
   have u3_2 : ∀ h x, upd h (C22) x (C1) = h (C1) := fun h x => upd_ne h x (by omega)
   have u2_3 : ∀ h x, upd h (C1) x (C22) = h (C22) := fun h x => upd_ne h x (by omega)
   have U3 : _ ∧ _ ∧ _ ∧ _ ∧ _ ∧ _ ∧ _ ∧ _ ∧ _ ∧ _ ∧ _ ∧ _ := ⟨u0_1, u0_2, u0_3, u1_0, u1_2, u1_3, u2_0, u2_1, u2_3, u3_0, u3_1, u3_2⟩
   refine DoesK_of (c3 _ _ _ (by first | exact P22 | (simp only [U3, upd_same, P22]; done) | (simp only [U3, upd_same, P22]; rfl) | rfl) (by omega)) ?_
   rintro v st ⟨N23, H23, C23, rfl, f23, P23⟩
   have F23 : Fr h c H23 C23 [p] := by
    refine Fr.trans ?_ f23 (by simp)
    refine Fr.more (c1 := C22) ?_ (by omega)
    repeat (first | exact F22 | refine Fr.upd (c1 := C22) ?_ _ (by first | (right; omega) | (left; simp; done)) (Nat.le_refl _))
   have L23 := F23.le
   have M23 := f23.le
   have Z23_1 : H23 (c) = some (.cells zeroN) := (f23.at (by omega) (by simp; omega)).trans (by first | (simp only [U3, upd_same, Z22_1]; done) | rfl | (simp only [U3, upd_same, Z22_1]; rfl))
   have Z23_2 : H23 (C1) = some (.cells [.int .i64 nk, .str nt, .int .i64 nn, .int .i64 na, .slice o1 (nns.map AV.str), .slice (oOf i) es]) := (f23.at (by omega) (by simp; omega)).trans (by first | (simp only [U3, upd_same, Z22_2]; done) | rfl | (simp only [U3, upd_same, Z22_2]; rfl))
   have Z23_3 : H23 (C22) = some (.cells zeroN) := (f23.at (by omega) (by simp; omega)).trans (by first | (simp only [U3, upd_same]; done) | rfl | (simp only [U3, upd_same]; rfl))
   obtain ⟨o23a, o23b, es23, rfl, E23⟩ := N23.inv
   have RW23 : Row H23 C23 C1 i nks es := ((RW22.upd _ _ (by omega) (Nat.le_refl _)).more (by omega)).keep f23 (by simp; omega)
   simp -dsimp -implicitDefEqProofs only [go_sem, Nat.reduceAdd, Nat.reduceEqDiff, reduceIte, reduceCtorEq, Nat.reduceLeDiff, Nat.reduceLT, Nat.reduceSub, Int.reduceEq, Int.reduceLT, preH, OpK_alloc, ldCells, fillV, zeroN, zeroT, pcell, U3, P23, Z23_1, Z23_2, g0, g2, g4, Z23_3]
   refine DoesK_of (must_call (o := o) (p := p) J3 (by first | exact P23 | (simp only [U3, upd_same, P23]; done) | (simp only [U3, upd_same, P23]; rfl) | rfl) (by omega) wArrow) ?_
   rintro v st ⟨rfl, H24, C24, rfl, f24, P24⟩
   have F24 : Fr h c H24 C24 [p] := by
    refine Fr.trans ?_ f24 (by simp)
    refine Fr.more (c1 := C23) ?_ (by omega)
    repeat (first | exact F23 | refine Fr.upd (c1 := C23) ?_ _ (by first | (right; omega) | (left; simp; done)) (Nat.le_refl _))
   have L24 := F24.le
   have M24 := f24.le
   have Z24_1 : H24 (c) = some (.cells zeroN) := (f24.at (by omega) (by simp; omega)).trans (by first | (simp only [U3, upd_same, Z23_1]; done) | rfl | (simp only [U3, upd_same, Z23_1]; rfl))
   have Z24_2 : H24 (C1) = some (.cells [.int .i64 nk, .str nt, .int .i64 nn, .int .i64 na, .slice o1 (nns.map AV.str), .slice (oOf i) es]) := (f24.at (by omega) (by simp; omega)).trans (by first | (simp only [U3, upd_same, Z23_2]; done) | rfl | (simp only [U3, upd_same, Z23_2]; rfl))
   have Z24_3 : H24 (C22) = some (.cells [.int .i64 n3.k, .str n3.t, .int .i64 n3.n, .int .i64 n3.a, .slice o23a (n3.ns.map AV.str), .slice o23b es23]) := (f24.at (by omega) (by simp; omega)).trans (by first | (simp only [U3, upd_same]; done) | rfl | (simp only [U3, upd_same]; rfl))
   have RW24 : Row H24 C24 C1 i nks es := ((RW23.updB RW22 _ _ (by omega) (Nat.le_refl _)).more (by omega)).keep f24 (by simp; omega)
   simp -dsimp -implicitDefEqProofs only [go_sem, Nat.reduceAdd, Nat.reduceEqDiff, reduceIte, reduceCtorEq, Nat.reduceLeDiff, Nat.reduceLT, Nat.reduceSub, Int.reduceEq, Int.reduceLT, preH, OpK_alloc, ldCells, fillV, zeroN, zeroT, pcell, U3, P24, Z24_1, Z24_2, Z24_3, g0, g2, g4, Aw_region1, OpsK_some1, OpsK_none1, OpsK_guard1, maskOf, List.flatMap_cons, List.flatMap_nil]
   refine DoesK_of (c4 _ _ _ (by first | exact P24 | (simp only [U3, upd_same, P24]; done) | (simp only [U3, upd_same, P24]; rfl) | rfl) (by omega)) ?_
   rintro v st ⟨N25, H25, C25, rfl, f25, P25⟩
   have F25 : Fr h c H25 C25 [p] := by
    refine Fr.trans ?_ f25 (by simp)
    refine Fr.more (c1 := C24) ?_ (by omega)
    repeat (first | exact F24 | refine Fr.upd (c1 := C24) ?_ _ (by first | (right; omega) | (left; simp; done)) (Nat.le_refl _))
   have L25 := F25.le
   have M25 := f25.le
   have Z25_1 : H25 (c) = some (.cells zeroN) := (f25.at (by omega) (by simp; omega)).trans (by first | (simp only [U3, upd_same, Z24_1]; done) | rfl | (simp only [U3, upd_same, Z24_1]; rfl))
   have Z25_2 : H25 (C1) = some (.cells [.int .i64 nk, .str nt, .int .i64 nn, .int .i64 na, .slice o1 (nns.map AV.str), .slice (oOf i) es]) := (f25.at (by omega) (by simp; omega)).trans (by first | (simp only [U3, upd_same, Z24_2]; done) | rfl | (simp only [U3, upd_same, Z24_2]; rfl))
   have Z25_3 : H25 (C22) = some (.cells [.int .i64 n3.k, .str n3.t, .int .i64 n3.n, .int .i64 n3.a, .slice o23a (n3.ns.map AV.str), .slice o23b es23]) := (f25.at (by omega) (by simp; omega)).trans (by first | (simp only [U3, upd_same, Z24_3]; done) | rfl | (simp only [U3, upd_same, Z24_3]; rfl))
   obtain ⟨o25a, o25b, es25, rfl, E25⟩ := N25.inv
   have RW25 : Row H25 C25 C1 i nks es := ((RW24).more (by omega)).keep f25 (by simp; omega)
   have hbig : nks.length ≤ 3000000000 := by omega
   have hone := RW25.two (b := C24) (d := []) (o := .full) (by omega) (by omega) N23 N25 hbig
   have happ := hone.1
   have RW25a := hone.2
   clear hone
   have hj0 := RW25.id (b := C24) (by omega) (by omega)
   have hj1 := hj0.1
   have hj2 := hj0.2
   clear hj0
   have hj3 := RW22.idB (x := C22) (b := C24) (by omega) (by omega)
   generalize i.getD (C24) = j at happ RW25a hj1 hj2 hj3
   have u4_0 : ∀ h x, upd h (j) x (p) = h (p) := fun h x => upd_ne h x (by omega)
   have u0_4 : ∀ h x, upd h (p) x (j) = h (j) := fun h x => upd_ne h x (by omega)
   have u4_1 : ∀ h x, upd h (j) x (c) = h (c) := fun h x => upd_ne h x (by omega)
   have u1_4 : ∀ h x, upd h (c) x (j) = h (j) := fun h x => upd_ne h x (by omega)
   have u4_2 : ∀ h x, upd h (j) x (C1) = h (C1) := fun h x => upd_ne h x (by omega)
   have u2_4 : ∀ h x, upd h (C1) x (j) = h (j) := fun h x => upd_ne h x (by omega)
   have u4_3 : ∀ h x, upd h (j) x (C22) = h (C22) := fun h x => upd_ne h x (by omega)
   have u3_4 : ∀ h x, upd h (C22) x (j) = h (j) := fun h x => upd_ne h x (by omega)
   have U4 : _ ∧ _ ∧ _ ∧ _ ∧ _ ∧ _ ∧ _ ∧ _ ∧ _ ∧ _ ∧ _ ∧ _ ∧ _ ∧ _ ∧ _ ∧ _ ∧ _ ∧ _ ∧ _ ∧ _ := ⟨u0_1, u0_2, u0_3, u0_4, u1_0, u1_2, u1_3, u1_4, u2_0, u2_1, u2_3, u2_4, u3_0, u3_1, u3_2, u3_4, u4_0, u4_1, u4_2, u4_3⟩
   simp -dsimp -implicitDefEqProofs only [go_sem, Nat.reduceAdd, Nat.reduceEqDiff, reduceIte, reduceCtorEq, Nat.reduceLeDiff, Nat.reduceLT, Nat.reduceSub, Int.reduceEq, Int.reduceLT, preH, OpK_alloc, ldCells, fillV, zeroN, zeroT, pcell, U4, P25, Z25_1, Z25_2, Z25_3, g0, g2, g4, Aw_region1, OpsK_some1, OpsK_none1, OpsK_guard1, maskOf, List.flatMap_cons, List.flatMap_nil, partsV, happ]
   simp only [List.contains_cons, List.contains_nil, Nat.reduceBEq, Bool.or_false, Bool.or_true, Bool.false_or, Bool.true_or, Bool.false_eq_true, if_true, if_false, opKey, ldKey, ev_tmp, get_cons, Nat.reduceEqDiff, reduceIte, Stable_cons, Stable_nil, List.forall_mem_cons, and_true, true_and]
   refine ⟨by simp [g4, Z24_2, Z25_2, Z24_3, Z25_3], ?_⟩
   refine Again.of m (by omega) ⟨false, (Nd.mk nk nt nn na nns nks).add [n3, n4], s4, some j, o1, _, _, _, by simp only [Nd.add, Nd.ks, List.length_append, List.length_cons, List.length_nil]; omega, by omega, hrk, J4, (by
     refine Fr.more (c1 := C25) ?_ (by omega)
     repeat (first | exact F25 | refine Fr.upd (c1 := C25) ?_ _ (by first | (right; omega) | (left; simp; done)) (Nat.le_refl _))), by omega, (by first | exact P25 | (simp only [U4, upd_same, P25]; done) | (simp only [U4, upd_same, P25]; rfl) | rfl), (by first | exact Z25_1 | (simp only [U4, upd_same, Z25_1]; done) | rfl), upd_same _ _ _, (RW25a.upd _ _ (by omega) (Nat.le_refl _)), g0, g2, g4, rfl, rfl⟩
end
end Go.Proofs.YtdohdncgjendkaaDoor
