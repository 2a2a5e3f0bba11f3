/- A node that a local holds, whose kids grow; a pattern. A pattern. The parser's functions: a constructor of a declaration; a type. The parser's functions: a type. The parser's functions: a declaration of a type. The parser's functions: a declaration; a program. The parser's functions: a program. The parser ends: so much fuel is enough. The parser's functions, all at once; a source's node. -/
import Derived.Test.YtdohdncgjendkaaDoorGB
import Derived.Test.YtdohdncgjendkaaDoorGA
import Derived.Test.YtdohdncgjendkaaDoorFB
set_option linter.unusedVariables false
set_option linter.unusedSimpArgs false
namespace Go.Proofs.YtdohdncgjendkaaDoor
open Abs Go.RowKit
/-- A local's cells are a node whose kids may grow. -/
def Loc (H : Hp) (C an : Nat) (nd : Nd) : Prop := ∃ i o1 es, an < C ∧ H an = some (.cells [.int .i64 nd.k, .str nd.t, .int .i64 nd.n, .int .i64 nd.a, .slice o1 (nd.ns.map AV.str), .slice (oOf i) es]) ∧ Row H C an i nd.ks es
theorem Loc.lt {H : Hp} {C an : Nat} {nd : Nd} (r : Loc H C an nd) : an < C := by obtain ⟨i, o1, es, h1, h2, h3⟩ := r; exact h1
theorem Loc.keep {H H' : Hp} {C C' an : Nat} {nd : Nd} {l : List Nat} (r : Loc H C an nd) (f : Fr H C H' C' l) (hl : ∀ x ∈ l, x < an) : Loc H' C' an nd := by
 obtain ⟨i, o1, es, h1, h2, h3⟩ := r
 exact ⟨i, o1, es, Nat.lt_of_lt_of_le h1 f.le, (f.at h1 fun hm => by have := hl _ hm; omega).trans h2, h3.keep f fun x hx => Nat.le_of_lt (hl x hx)⟩
theorem Row.keepB {H H' : Hp} {C C' B an : Nat} {i : Option Nat} {ks : List Nd} {es : List AV} {l : List Nat} (r : Row H B an i ks es) (f : Fr H C H' C' l) (hB : B ≤ C) (hl : ∀ x ∈ l, x ≤ an) : Row H' B an i ks es :=
 ⟨r.own.keep fun j hj => f.at (Nat.lt_of_lt_of_le (r.lo j hj).2 hB) fun hm => by have := hl j hm; have := (r.lo j hj).1; omega, r.nr, r.lo, r.nil⟩
theorem Loc.keepB {H H' : Hp} {C C' B an : Nat} {nd : Nd} {l : List Nat} (r : Loc H B an nd) (f : Fr H C H' C' l) (hB : B ≤ C) (hl : ∀ x ∈ l, x < an) : Loc H' B an nd := by
 obtain ⟨i, o1, es, h1, h2, h3⟩ := r
 exact ⟨i, o1, es, h1, (f.at (Nat.lt_of_lt_of_le h1 hB) fun hm => by have := hl _ hm; omega).trans h2, h3.keepB f hB fun x hx => Nat.le_of_lt (hl x hx)⟩
theorem Loc.more {H : Hp} {C C' an : Nat} {nd : Nd} (r : Loc H C an nd) (h : C ≤ C') : Loc H C' an nd := by
 obtain ⟨i, o1, es, h1, h2, h3⟩ := r
 exact ⟨i, o1, es, Nat.lt_of_lt_of_le h1 h, h2, h3.more h⟩
theorem Loc.upd {H : Hp} {C C' an : Nat} {nd : Nd} (r : Loc H C an nd) (x : Nat) (o : AObj) (hx : x < an ∨ C ≤ x) (h : C ≤ C') : Loc (Abs.upd H x o) C' an nd := by
 obtain ⟨i, o1, es, h1, h2, h3⟩ := r
 exact ⟨i, o1, es, Nat.lt_of_lt_of_le h1 h, by rw [upd_ne _ _ (by omega)]; exact h2, h3.upd x o (by omega) h⟩
theorem Loc.nr {H : Hp} {C an : Nat} {nd : Nd} (r : Loc H C an nd) : ∃ o1 o2 es, H an = some (.cells [.int .i64 nd.k, .str nd.t, .int .i64 nd.n, .int .i64 nd.a, .slice o1 (nd.ns.map AV.str), .slice o2 es]) ∧ es.length = nd.ks.length ∧ NR nd (.agg [.int .i64 nd.k, .str nd.t, .int .i64 nd.n, .int .i64 nd.a, .slice o1 (nd.ns.map AV.str), .slice o2 es]) := by
 obtain ⟨i, o1, es, h1, h2, h3⟩ := r
 refine ⟨o1, _, es, h2, h3.nr.1, ?_⟩
 obtain ⟨k, t, n, a, ns, ks⟩ := nd
 exact h3.node k t n a ns o1
theorem Loc.start {H : Hp} {C an : Nat} {k n a : Int} {t : List UInt8} {o1 : Own} {ns : List (List UInt8)} (h : an < C) (h2 : H an = some (.cells [.int .i64 k, .str t, .int .i64 n, .int .i64 a, .slice o1 (ns.map AV.str), .slice .full []])) : Loc H C an (.mk k t n a ns []) :=
 ⟨none, o1, [], h, h2, Row.start _ _ _⟩
section
variable {T : List Tok} {p : Nat} {o : Own}
theorem grow_region {nT b g : Nat} {vs : List AV} {K : AExit → AEnv → ASt → Prop} {vK : Veil K} {e : AEnv} {h H : Hp} {c C an : Nat} {d : List (Nat × List AV)} {nd x : Nd} {s s' : PS}
  (h0 : e.get 0 = .ptr p 0) (hn : e.get nT = .ptr an 0) (hb0 : 0 < b) (hbn : nT < b) (hF : Fr h c H C [p]) (hca : c ≤ an) (hpc : p < c) (hL : Loc H C an nd) (hP : H p = some (pcell o T s)) (hlen : nd.ks.length ≤ 3000000000)
  (hg : ∀ h c d, h p = some (pcell o T s) → p < c → Does X g (.ptr p 0 :: vs) ⟨h, c, d⟩ (NK p o T h c d x s'))
  (hK : ∀ e' H' C', (∀ t, t < b → e'.get t = e.get t) → Fr h c H' C' [p] → (∀ a, a < an → a ≠ p → H' a = H a) → H' p = some (pcell o T s') → Loc H' C' an (nd.add [x]) → C ≤ C' → K .normal e' ⟨H', C', d⟩)
  {v : Veil (ACode.region 1 [] [⟨some b, none, .fieldAddr 5 (.tmp nT)⟩, ⟨some (b + 1), none, .load false 1 (.tmp b)⟩, ⟨some (b + 2), none, .move (.tmp 0)⟩, ⟨some (b + 3), none, .call (.val (.func g [] [])) (.tmp (b + 2) :: vs.map .val)⟩, ⟨some (b + 4), none, .buildSlice 6 [.tmp (b + 3)]⟩, ⟨some (b + 5), none, .append 0 6 88 (.tmp (b + 1)) (.tmp (b + 4))⟩, ⟨some (b + 6), none, .fieldAddr 5 (.tmp nT)⟩, ⟨none, none, .store 1 (.tmp (b + 6)) (.tmp (b + 5))⟩] [(1, 3)])} :
  Aw X (.region 1 [] [⟨some b, none, .fieldAddr 5 (.tmp nT)⟩, ⟨some (b + 1), none, .load false 1 (.tmp b)⟩, ⟨some (b + 2), none, .move (.tmp 0)⟩, ⟨some (b + 3), none, .call (.val (.func g [] [])) (.tmp (b + 2) :: vs.map .val)⟩, ⟨some (b + 4), none, .buildSlice 6 [.tmp (b + 3)]⟩, ⟨some (b + 5), none, .append 0 6 88 (.tmp (b + 1)) (.tmp (b + 4))⟩, ⟨some (b + 6), none, .fieldAddr 5 (.tmp nT)⟩, ⟨none, none, .store 1 (.tmp (b + 6)) (.tmp (b + 5))⟩] [(1, 3)]) K v vK e ⟨H, C, d⟩ := by
 obtain ⟨i, o1, es, hanC, hZ, hR⟩ := hL
 obtain ⟨nk, nt, nn, na, nns, nks⟩ := nd
 replace hZ : H an = some (.cells [.int .i64 nk, .str nt, .int .i64 nn, .int .i64 na, .slice o1 (nns.map AV.str), .slice (oOf i) es]) := hZ
 replace hR : Row H C an i nks es := hR
 have hvs : ∀ e : AEnv, List.map (ev e) (List.map AOpd.val vs) = vs := fun e => by
  rw [List.map_map]; exact List.map_id'' (fun _ => rfl) vs
 have q0 : ∀ k, ¬ b + (k + 1) = b := fun k => by omega
 have q1 : ∀ k, ¬ b = b + (k + 1) := fun k => by omega
 have q2 : ∀ k, ¬ b + k = 0 := fun k => by omega
 have q3 : ¬ b = 0 := by omega
 have q4 : ∀ k, ¬ b + k = nT := fun k => by omega
 have q5 : ¬ b = nT := by omega
 simp -dsimp -implicitDefEqProofs only [go_sem, Nat.reduceAdd, Nat.reduceEqDiff, reduceIte, reduceCtorEq, Nat.reduceLeDiff, Nat.reduceLT, Nat.reduceSub, Int.reduceEq, Int.reduceLT, Aw_region1, OpsK_some1, OpsK_none1, OpsK_guard1, maskOf, List.flatMap_cons, List.flatMap_nil, preH, hn, hZ, h0, q0, q1, q2, q3, q4, q5, ldCells, hvs, Nat.add_left_cancel_iff]
 refine DoesK_of (hg _ _ _ hP (by omega)) ?_
 rintro v st ⟨N1, H1, C1, rfl, f1, P1⟩
 obtain ⟨oa, ob, es1, rfl, E1⟩ := N1.inv
 have hCC := f1.le
 have hR1 : Row H1 C1 an i nks es := (hR.more (Nat.le_succ C)).keep f1 (by simp; omega)
 have hone := hR1.one (b := C) (d := d) (o := .full) (by omega) (by omega) N1 hlen
 have happ := hone.1
 have hR2 := hone.2
 clear hone
 have hj := hR1.id (b := C) (by omega) (by omega)
 generalize i.getD C = j at happ hR2 hj
 have hZ1 : H1 an = _ := (f1.at (by omega) (by simp; omega)).trans hZ
 have u : ∀ h x, upd h j x an = h an := fun h x => upd_ne h x (by omega)
 simp -dsimp -implicitDefEqProofs only [go_sem, Nat.reduceAdd, Nat.reduceEqDiff, reduceIte, reduceCtorEq, Nat.reduceLeDiff, Nat.reduceLT, Nat.reduceSub, Int.reduceEq, Int.reduceLT, Aw_region1, OpsK_some1, OpsK_none1, OpsK_guard1, maskOf, List.flatMap_cons, List.flatMap_nil, preH, hn, hZ1, h0, q0, q1, q2, q3, q4, q5, ldCells, partsV, happ, u, Nat.add_left_cancel_iff]
 simp only [List.contains_cons, List.contains_nil, Nat.reduceBEq, Bool.or_false, Bool.or_true, Bool.false_or, Bool.true_or, Bool.false_eq_true, if_true, if_false, opKey, ldKey, ev_tmp, get_cons, Nat.reduceEqDiff, reduceIte, Stable_cons, Stable_nil, List.forall_mem_cons, and_true, true_and]
 refine ⟨by simp [hn, hZ, hZ1], ?_⟩
 refine hK _ _ _ (fun t ht => ?_) ?_ (fun a ha hap => ?_) ?_ ⟨some j, o1, _, by omega, upd_same _ _ _, ?_⟩ (by omega)
 ·simp only [get_cons]
  repeat rw [if_neg (by omega)]
 ·exact (((hF.more (Nat.le_succ C)).trans f1 (by simp)).upd _ (.inr (by omega)) (Nat.le_refl _)).upd _ (.inr (by omega)) (Nat.le_refl _)
 ·rw [upd_ne _ _ (by omega), upd_ne _ _ (by omega), f1.at (by omega) (by simpa using hap)]
 ·rw [upd_ne _ _ (by omega), upd_ne _ _ (by omega), P1]
 ·exact hR2.upd an _ (.inl (Nat.le_refl _)) (Nat.le_refl _)
end
section
variable {T : List Tok} {p : Nat} {o : Own}
/-- What is asked at the loop's head. -/
def pcond : ACode := (.seq (.region 0 [] [⟨(some 11), none, (.move (.tmp 3))⟩, ⟨(some 12), none, (.move (.tmp 11))⟩, ⟨(some 13), (some (12, true)), (.move (.tmp 0))⟩, ⟨(some 14), (some (12, true)), (.call (.val (.func 30 [] [])) [(.tmp 13), (.val (.str [95]))])⟩, ⟨(some 15), (some (12, true)), (.move (.tmp 14))⟩, ⟨(some 16), (some (15, false)), (.move (.tmp 0))⟩, ⟨(some 17), (some (15, false)), (.call (.val (.func 30 [] [])) [(.tmp 16), (.val (.str [40]))])⟩, ⟨(some 18), (some (12, true)), (.pick (.tmp 15) (.val (.bool true)) (.tmp 17))⟩, ⟨(some 19), (some (12, true)), (.move (.tmp 18))⟩, ⟨(some 20), (some (19, false)), (.move (.tmp 0))⟩, ⟨(some 21), (some (19, false)), (.call (.val (.func 29 [] [])) [(.tmp 20)])⟩, ⟨(some 22), (some (19, false)), (.field false 1 0 (.tmp 21))⟩, ⟨(some 23), (some (19, false)), (.bin .eql (.tmp 22) (.val (.int .i64 3)))⟩, ⟨(some 24), (some (12, true)), (.pick (.tmp 19) (.val (.bool true)) (.tmp 23))⟩, ⟨(some 25), (some (12, true)), (.move (.tmp 24))⟩, ⟨(some 26), (some (25, false)), (.move (.tmp 0))⟩, ⟨(some 27), (some (25, false)), (.call (.val (.func 29 [] [])) [(.tmp 26)])⟩, ⟨(some 28), (some (25, false)), (.field false 1 0 (.tmp 27))⟩, ⟨(some 29), (some (25, false)), (.bin .eql (.tmp 28) (.val (.int .i64 1)))⟩, ⟨(some 30), (some (12, true)), (.pick (.tmp 25) (.val (.bool true)) (.tmp 29))⟩, ⟨(some 31), (some (12, true)), (.move (.tmp 30))⟩, ⟨(some 32), (some (31, false)), (.move (.tmp 0))⟩, ⟨(some 33), (some (31, false)), (.call (.val (.func 29 [] [])) [(.tmp 32)])⟩, ⟨(some 34), (some (31, false)), (.field false 1 0 (.tmp 33))⟩, ⟨(some 35), (some (31, false)), (.bin .eql (.tmp 34) (.val (.int .i64 4)))⟩, ⟨(some 36), (some (12, true)), (.pick (.tmp 31) (.val (.bool true)) (.tmp 35))⟩, ⟨(some 37), none, (.pick (.tmp 12) (.tmp 36) (.val (.bool false)))⟩] []) (.cond (.tmp 37) .skip (.exit 0)))
set_option maxHeartbeats 4000000 in
theorem patCond {K : AExit → AEnv → ASt → Prop} {vK : Veil K} {v : Veil pcond} {e : AEnv} {H : Hp} {C : Nat} {d : List (Nat × List AV)} {s : PS} {cb : Bool} (hi : Inv T s) (h0 : e.get 0 = .ptr p 0) (h3 : e.get 3 = .bool cb) (hP : H p = some (pcell o T s)) (hpC : p < C)
  (hT : (cb && patMore T s) = true → ∀ e' H' C', (∀ t, t < 11 → e'.get t = e.get t) → Fr H C H' C' [p] → H' p = some (pcell o T s) → K .normal e' ⟨H', C', d⟩)
  (hF : (cb && patMore T s) = false → ∀ e' H' C', (∀ t, t < 11 → e'.get t = e.get t) → Fr H C H' C' [p] → H' p = some (pcell o T s) → K (.exit 0) e' ⟨H', C', d⟩) : Aw X pcond K v vK e ⟨H, C, d⟩ := by
 cases v
 delta pcond
 cases cb
 ·simp -dsimp -implicitDefEqProofs only [go_sem, Nat.reduceAdd, Nat.reduceEqDiff, reduceIte, reduceCtorEq, Nat.reduceLeDiff, Nat.reduceLT, Nat.reduceSub, Int.reduceEq, Int.reduceLT, h0, h3]
  refine hF rfl _ _ _ (fun t ht => ?_) (Fr.refl _ _ _) hP
  simp only [get_cons]
  repeat rw [if_neg (by omega)]
 simp only [Bool.true_and, patMore] at hT hF
 simp -dsimp -implicitDefEqProofs only [go_sem, Nat.reduceAdd, Nat.reduceEqDiff, reduceIte, reduceCtorEq, Nat.reduceLeDiff, Nat.reduceLT, Nat.reduceSub, Int.reduceEq, Int.reduceLT, h0, h3]
 refine DoesK_of (isw_call hi hP hpC [95]) ?_
 rintro v st ⟨rfl, H1, C1, rfl, f1, P1⟩
 have l1 := f1.le
 cases g1 : isW T [95] s
 case true =>
  simp -dsimp -implicitDefEqProofs only [go_sem, Nat.reduceAdd, Nat.reduceEqDiff, reduceIte, reduceCtorEq, Nat.reduceLeDiff, Nat.reduceLT, Nat.reduceSub, Int.reduceEq, Int.reduceLT, h0, h3]
  refine hT (by rw [g1]; rfl) _ _ _ (fun t ht => ?_) f1 P1
  simp only [get_cons]
  repeat rw [if_neg (by omega)]
 simp -dsimp -implicitDefEqProofs only [go_sem, Nat.reduceAdd, Nat.reduceEqDiff, reduceIte, reduceCtorEq, Nat.reduceLeDiff, Nat.reduceLT, Nat.reduceSub, Int.reduceEq, Int.reduceLT, h0, h3]
 refine DoesK_of (isw_call hi P1 (by omega) [40]) ?_
 rintro v st ⟨rfl, H2, C2, rfl, f2, P2⟩
 replace f2 := f1.trans f2 (by simp)
 have l2 := f2.le
 cases g2 : isW T [40] s
 case true =>
  simp -dsimp -implicitDefEqProofs only [go_sem, Nat.reduceAdd, Nat.reduceEqDiff, reduceIte, reduceCtorEq, Nat.reduceLeDiff, Nat.reduceLT, Nat.reduceSub, Int.reduceEq, Int.reduceLT, h0, h3]
  refine hT (by rw [g1, g2]; rfl) _ _ _ (fun t ht => ?_) f2 P2
  simp only [get_cons]
  repeat rw [if_neg (by omega)]
 simp -dsimp -implicitDefEqProofs only [go_sem, Nat.reduceAdd, Nat.reduceEqDiff, reduceIte, reduceCtorEq, Nat.reduceLeDiff, Nat.reduceLT, Nat.reduceSub, Int.reduceEq, Int.reduceLT, h0, h3]
 refine DoesK_of (look_call hi P2 (by omega)) ?_
 rintro v st ⟨rfl, H3, C3, rfl, f3, P3⟩
 replace f3 := f2.trans f3 (by simp)
 have l3 := f3.le
 have fk : fldV false 1 0 (tkV (look T s)) = some (.int .i64 (look T s).1.k) := rfl
 cases g3 : decide ((look T s).1.k = 3)
 case true =>
  simp -dsimp -implicitDefEqProofs only [go_sem, Nat.reduceAdd, Nat.reduceEqDiff, reduceIte, reduceCtorEq, Nat.reduceLeDiff, Nat.reduceLT, Nat.reduceSub, Int.reduceEq, Int.reduceLT, h0, h3, fk, g3]
  refine hT (by rw [g1, g2, g3]; rfl) _ _ _ (fun t ht => ?_) f3 P3
  simp only [get_cons]
  repeat rw [if_neg (by omega)]
 simp -dsimp -implicitDefEqProofs only [go_sem, Nat.reduceAdd, Nat.reduceEqDiff, reduceIte, reduceCtorEq, Nat.reduceLeDiff, Nat.reduceLT, Nat.reduceSub, Int.reduceEq, Int.reduceLT, h0, h3, fk, g3]
 refine DoesK_of (look_call hi P3 (by omega)) ?_
 rintro v st ⟨rfl, H4, C4, rfl, f4, P4⟩
 replace f4 := f3.trans f4 (by simp)
 have l4 := f4.le
 cases g4 : decide ((look T s).1.k = 1)
 case true =>
  simp -dsimp -implicitDefEqProofs only [go_sem, Nat.reduceAdd, Nat.reduceEqDiff, reduceIte, reduceCtorEq, Nat.reduceLeDiff, Nat.reduceLT, Nat.reduceSub, Int.reduceEq, Int.reduceLT, h0, h3, fk, g4]
  refine hT (by rw [g1, g2, g3, g4]; rfl) _ _ _ (fun t ht => ?_) f4 P4
  simp only [get_cons]
  repeat rw [if_neg (by omega)]
 simp -dsimp -implicitDefEqProofs only [go_sem, Nat.reduceAdd, Nat.reduceEqDiff, reduceIte, reduceCtorEq, Nat.reduceLeDiff, Nat.reduceLT, Nat.reduceSub, Int.reduceEq, Int.reduceLT, h0, h3, fk, g4]
 refine DoesK_of (look_call hi P4 (by omega)) ?_
 rintro v st ⟨rfl, H5, C5, rfl, f5, P5⟩
 replace f5 := f4.trans f5 (by simp)
 cases g5 : decide ((look T s).1.k = 4)
 case true =>
  simp -dsimp -implicitDefEqProofs only [go_sem, Nat.reduceAdd, Nat.reduceEqDiff, reduceIte, reduceCtorEq, Nat.reduceLeDiff, Nat.reduceLT, Nat.reduceSub, Int.reduceEq, Int.reduceLT, h0, h3, fk, g5]
  refine hT (by rw [g1, g2, g3, g4, g5]; rfl) _ _ _ (fun t ht => ?_) f5 P5
  simp only [get_cons]
  repeat rw [if_neg (by omega)]
 case false =>
  simp -dsimp -implicitDefEqProofs only [go_sem, Nat.reduceAdd, Nat.reduceEqDiff, reduceIte, reduceCtorEq, Nat.reduceLeDiff, Nat.reduceLT, Nat.reduceSub, Int.reduceEq, Int.reduceLT, h0, h3, fk, g5]
  refine hF (by rw [g1, g2, g3, g4, g5]; rfl) _ _ _ (fun t ht => ?_) f5 P5
  simp only [get_cons]
  repeat rw [if_neg (by omega)]
theorem patLoop_inv {f : Nat} (ha : ∀ m, m ≤ f → Reads T p o 109 (run T m .patom)) : ∀ (q : Nat) (cb : Bool) (nd : Nd) (s : PS) (n : Nd) (s' : PS), q ≤ f → Inv T s → run T q (.patLoop cb nd) s = some (n, s') → s'.deep = s.deep ∧ Inv T s' := by
 intro q
 induction q with
 | zero => intro _ nd s n s' hq hi hr; cases hr
 | succ q ih =>
  intro cb nd s n s' hq hi hr
  rw [run_patLoop] at hr
  split at hr
  ·split at hr
   case h_2 => cases hr
   rename_i n1 s1 g1
   obtain ⟨⟨d1, I1⟩, _⟩ := ha q (by omega) _ _ _ (hi.most _ _) g1
   obtain ⟨d3, I3⟩ := ih _ _ _ _ _ (by omega) I1 hr
   exact ⟨by rw [d3, d1, most_deep], I3⟩
  ·injection hr with hr; injection hr with r1 r2
   subst r2; exact ⟨rfl, hi⟩
theorem patom_bare {f : Nat} {s s' : PS} {n : Nd} (hk : (look T s).1.k = 4) (hr : run T (f + 1) .patom s = some (n, s')) : n.ks = [] := by
 rw [run_patom] at hr
 have e := fun w => isW_k (T := T) (w := w) hk (by decide) (by decide)
 simp only [e, Bool.false_eq_true, if_false] at hr
 injection hr with hr
 have : n = (leaf T patK s).1 := by rw [hr]
 rw [this, leaf, if_neg (by rw [hk]; decide)]
 rfl
set_option maxHeartbeats 8000000 in
theorem pat_reads {f : Nat} (hf : f ≤ 1000000000) (ha : ∀ m, m ≤ f → Reads T p o 109 (run T m .patom)) : Reads T p o 107 (run T (f + 1) .pat) := by
 intro s n s' hi hr
 rw [run_pat] at hr
 dsimp only at hr
 split at hr
 case h_2 => cases hr
 rename_i n1 s1 h1
 obtain ⟨⟨d1, I1⟩, c1⟩ := ha f (Nat.le_refl _) _ _ _ hi h1
 obtain ⟨d2, I2⟩ := patLoop_inv ha _ _ _ _ _ _ (Nat.le_refl _) I1 hr
 refine ⟨⟨by rw [d2, d1], I2⟩, fun h c d hp hpc => ?_⟩
 refine call_aw b107 rfl rfl rfl ?_; delta b107
 have u0 : ∀ h x, upd h c x p = h p := fun h x => upd_ne h x (by omega)
 have fk : fldV false 1 0 (tkV (look T s)) = some (.int .i64 (look T s).1.k) := rfl
 simp -dsimp -implicitDefEqProofs only [go_sem, Nat.reduceAdd, Nat.reduceEqDiff, reduceIte, reduceCtorEq, Nat.reduceLeDiff, Nat.reduceLT, Nat.reduceSub, Int.reduceEq, Int.reduceLT, preH, OpK_alloc]
 refine DoesK_of (look_call (s := s) (o := o) (p := p) hi (by rw [u0]; exact hp) (by omega)) ?_
 rintro v st ⟨rfl, H1, C1, rfl, f1, P1⟩
 have Z1 : H1 c = some (.cells zeroN) := (f1.at (by omega) (by simp; omega)).trans (upd_same _ _ _)
 have F1 : Fr h c H1 C1 [p] := ((Fr.refl h c [p]).upd _ (.inr (Nat.le_refl _)) (Nat.le_succ _)).trans f1 (by simp)
 have l1 := f1.le
 generalize hcb : decide ((look T s).1.k = 4) = cb at hr
 have u1 : ∀ h x, upd h C1 x p = h p := fun h x => upd_ne h x (by omega)
 simp -dsimp -implicitDefEqProofs only [go_sem, Nat.reduceAdd, Nat.reduceEqDiff, reduceIte, reduceCtorEq, Nat.reduceLeDiff, Nat.reduceLT, Nat.reduceSub, Int.reduceEq, Int.reduceLT, preH, OpK_alloc, fk, hcb]
 refine DoesK_of (c1 _ _ _ (by rw [u1]; exact P1) (by omega)) ?_
 rintro v st ⟨N2, H2, C2, rfl, f2, P2⟩
 have l2 := f2.le
 obtain ⟨o2a, o2b, es2, rfl, E2⟩ := N2.inv
 have Z2 : H2 c = some (.cells zeroN) := (f2.at (by omega) (by simp; omega)).trans (by rw [upd_ne _ _ (by omega)]; exact Z1)
 have Y2 : H2 C1 = some (.cells zeroN) := (f2.at (by omega) (by simp; omega)).trans (upd_same _ _ _)
 have F2 : Fr h c H2 C2 [p] := (F1.upd _ (.inr (by omega)) (Nat.le_succ _)).trans f2 (by simp)
 simp -dsimp -implicitDefEqProofs only [go_sem, Nat.reduceAdd, Nat.reduceEqDiff, reduceIte, reduceCtorEq, Nat.reduceLeDiff, Nat.reduceLT, Nat.reduceSub, Int.reduceEq, Int.reduceLT, OpK_alloc, Y2, zeroN, ldCells]
 have F3 : Fr h c (upd H2 C1 (.cells [.int .i64 n1.k, .str n1.t, .int .i64 n1.n, .int .i64 n1.a, .slice o2a (n1.ns.map AV.str), .slice o2b es2])) C2 [p] := F2.upd _ (.inr (by omega)) (Nat.le_refl _)
 have P3 : upd H2 C1 (.cells [.int .i64 n1.k, .str n1.t, .int .i64 n1.n, .int .i64 n1.a, .slice o2a (n1.ns.map AV.str), .slice o2b es2]) p = some (pcell o T s1) := by rw [u1]; exact P2
 have Z3 : upd H2 C1 (.cells [.int .i64 n1.k, .str n1.t, .int .i64 n1.n, .int .i64 n1.a, .slice o2a (n1.ns.map AV.str), .slice o2b es2]) c = some (.cells zeroN) := by rw [upd_ne _ _ (by omega)]; exact Z2
 have Y3 : upd H2 C1 (.cells [.int .i64 n1.k, .str n1.t, .int .i64 n1.n, .int .i64 n1.a, .slice o2a (n1.ns.map AV.str), .slice o2b es2]) C1 = _ := upd_same _ _ _
 generalize upd H2 C1 (.cells [.int .i64 n1.k, .str n1.t, .int .i64 n1.n, .int .i64 n1.a, .slice o2a (n1.ns.map AV.str), .slice o2b es2]) = H3 at *
 -- no constructor: nothing grows
 cases cb
 ·have hn : n = n1 ∧ s' = s1 := by
   cases f with
   | zero => cases h1
   | succ f =>
    rw [run_patLoop] at hr
    simp only [Bool.false_and, Bool.false_eq_true, if_false] at hr
    injection hr with hr; injection hr with r1 r2
    exact ⟨r1.symm, r2.symm⟩
  obtain ⟨rfl, rfl⟩ := hn
  refine LoopK_step ?_
  rw [Aw_seq]
  refine patCond (cb := false) I1 rfl rfl P3 (by omega) (fun hq => by simp at hq) (fun _ e' H' C' he hf4 hP4 => ?_)
  have g2 : e'.get 2 = .ptr c 0 := he 2 (by omega)
  have g4 : e'.get 4 = .ptr C1 0 := he 4 (by omega)
  have Z4 : H' c = some (.cells zeroN) := (hf4.at (by omega) (by simp; omega)).trans Z3
  have Y4 := (hf4.at (show C1 < C2 by omega) (by simp; omega)).trans Y3
  simp -dsimp -implicitDefEqProofs only [go_sem, Nat.reduceAdd, Nat.reduceEqDiff, reduceIte, reduceCtorEq, Nat.reduceLeDiff, Nat.reduceLT, Nat.reduceSub, Int.reduceEq, Int.reduceLT, g2, g4, Z4, Y4, zeroN, ldCells]
  refine ⟨N2, _, _, rfl, (F3.trans hf4 (by simp)).upd _ (.inr (Nat.le_refl _)) (Nat.le_refl _), by rw [upd_ne _ _ (by omega)]; exact hP4⟩
 ·have hk4 : (look T s).1.k = 4 := by simpa using hcb
  have hks : n1.ks = [] := by
   cases f with
   | zero => cases h1
   | succ f => exact patom_bare hk4 h1
  have hfull := N2.full hks
  obtain ⟨hfull, hnil⟩ := hfull
  subst hnil; subst hfull
  obtain ⟨k1, t1, x1, a1, ns1, ks1⟩ := n1
  have hks : ks1 = [] := hks
  subst hks
  have L3 : Loc H3 C2 C1 (.mk k1 t1 x1 a1 ns1 []) := Loc.start (by omega) Y3
  let I : Nat → AEnv → ASt → Prop := fun m e st => ∃ (nd : Nd) (sk : PS) (H : Hp) (C : Nat), nd.ks.length + m ≤ f ∧ run T m (.patLoop true nd) sk = some (n, s') ∧ Inv T sk ∧ Fr h c H C [p] ∧ H p = some (pcell o T sk) ∧ H c = some (.cells zeroN) ∧ Loc H C C1 nd ∧
   e.get 0 = .ptr p 0 ∧ e.get 2 = .ptr c 0 ∧ e.get 4 = .ptr C1 0 ∧ e.get 3 = .bool true ∧ st = ⟨H, C, []⟩
  refine LoopK_rule I f ⟨_, _, _, _, Nat.le_of_eq (Nat.zero_add _), hr, I1, F3, P3, Z3, L3, rfl, rfl, rfl, rfl, rfl⟩ ?_
  rintro m e st ⟨nd, sk, H, C, hm, hrk, Ik, HF, HP, Zc, HL, g0, g2, g4, g3, rfl⟩
  have hC := HL.lt
  cases m with
  | zero => cases hrk
  | succ m =>
  rw [run_patLoop] at hrk
  rw [Aw_seq]
  refine patCond (cb := true) Ik g0 g3 HP (by omega) (fun hq e' H' C' he hf4 hP4 => ?_) (fun hq e' H' C' he hf4 hP4 => ?_)
  ·rw [if_pos hq] at hrk
   split at hrk
   case h_2 => cases hrk
   rename_i n2 s2 q2
   obtain ⟨⟨e1, J1⟩, e2⟩ := ha m (by omega) _ _ _ (Ik.most _ _) q2
   have g0' := (he 0 (by omega)).trans g0
   have g2' := (he 2 (by omega)).trans g2
   have g3' := (he 3 (by omega)).trans g3
   have g4' := (he 4 (by omega)).trans g4
   have hL4 := HL.keep hf4 (by simp; omega)
   have hC4 := hf4.le
   have F4 := HF.trans hf4 (by simp)
   have Z4 : H' c = some (.cells zeroN) := (hf4.at (by omega) (by simp; omega)).trans Zc
   obtain ⟨o1, o2, es, hZ, hlen, _⟩ := hL4.nr
   simp -dsimp -implicitDefEqProofs only [go_sem, Nat.reduceAdd, Nat.reduceEqDiff, reduceIte, reduceCtorEq, Nat.reduceLeDiff, Nat.reduceLT, Nat.reduceSub, Int.reduceEq, Int.reduceLT, g0', g4', hZ, hlen]
   refine DoesK_of (most_call (o := o) (p := p) Ik hP4 (by omega) _ _) ?_
   rintro v st ⟨rfl, H5, C5, rfl, f5, P5⟩
   have hL5 := hL4.keep f5 (by simp; omega)
   have F5 := F4.trans f5 (by simp)
   have Z5 : H5 c = some (.cells zeroN) := (f5.at (by omega) (by simp; omega)).trans Z4
   simp -dsimp -implicitDefEqProofs only [go_sem, Nat.reduceAdd, Nat.reduceEqDiff, reduceIte, reduceCtorEq, Nat.reduceLeDiff, Nat.reduceLT, Nat.reduceSub, Int.reduceEq, Int.reduceLT]
   refine grow_region (nT := 4) (b := 43) (vs := []) (an := C1) (h := h) (c := c) (nd := nd) (x := n2) (s := mostS T nd.ks.length 4 sk) (s' := s2) (o := o) (by simp only [get_cons, Nat.reduceEqDiff, reduceIte]; exact g0') (by simp only [get_cons, Nat.reduceEqDiff, reduceIte]; exact g4') (by omega) (by omega) F5 (by omega) hpc hL5 P5 (by omega) e2 (fun e6 H6 C6 he6 F6 hk6 P6 L6 hC6 => ?_)
   have G : ∀ t, t < 11 → e6.get t = e.get t := fun t ht => by
    rw [he6 t (by omega)]
    simp only [get_cons]
    repeat rw [if_neg (by omega)]
    exact he t ht
   simp -dsimp -implicitDefEqProofs only [go_sem, Nat.reduceAdd, Nat.reduceEqDiff, reduceIte, reduceCtorEq, Nat.reduceLeDiff, Nat.reduceLT, Nat.reduceSub, Int.reduceEq, Int.reduceLT]
   refine Again.of m (by omega) ⟨nd.add [n2], s2, H6, C6, by obtain ⟨_, _, _, _, _, _⟩ := nd; simp only [Nd.add, Nd.ks, List.length_append, List.length_cons, List.length_nil] at hm ⊢; omega, hrk, J1, F6, P6, (hk6 c (by omega) (by omega)).trans Z5, L6, (G 0 (by omega)).trans g0, (G 2 (by omega)).trans g2, (G 4 (by omega)).trans g4, (G 3 (by omega)).trans g3, rfl⟩
  ·rw [if_neg (by rw [hq]; simp)] at hrk
   injection hrk with hrk; injection hrk with r1 r2
   subst r1; subst r2
   have g0' := (he 0 (by omega)).trans g0
   have g2' := (he 2 (by omega)).trans g2
   have g4' := (he 4 (by omega)).trans g4
   have hL4 := HL.keep hf4 (by simp; omega)
   have Z4 : H' c = some (.cells zeroN) := (hf4.at (by omega) (by simp; omega)).trans Zc
   obtain ⟨o1, o2, es, hZ, hlen, hN⟩ := hL4.nr
   simp -dsimp -implicitDefEqProofs only [go_sem, Nat.reduceAdd, Nat.reduceEqDiff, reduceIte, reduceCtorEq, Nat.reduceLeDiff, Nat.reduceLT, Nat.reduceSub, Int.reduceEq, Int.reduceLT, g0', g2', g4', hZ, Z4, zeroN, ldCells]
   exact ⟨hN, _, _, rfl, (HF.trans hf4 (by simp)).upd _ (.inr (Nat.le_refl _)) (Nat.le_refl _), by rw [upd_ne _ _ (by omega)]; exact hP4⟩
end
section
variable {T : List Tok} {p : Nat} {o : Own}
theorem conLoop_inv {f : Nat} (ha : ∀ m, m ≤ f → Reads T p o 80 (run T m .tyapp)) : ∀ (q : Nat) (more : Bool) (nd : Nd) (s : PS) (n : Nd) (s' : PS), q ≤ f → Inv T s → run T q (.conLoop nd more) s = some (n, s') → s'.deep = s.deep ∧ Inv T s' := by
 intro q
 induction q with
 | zero => intro _ nd s n s' hq hi hr; cases hr
 | succ q ih =>
  intro more nd s n s' hq hi hr
  rw [run_conLoop] at hr
  split at hr
  ·split at hr
   case h_2 => cases hr
   rename_i n1 s1 g1
   obtain ⟨⟨d1, I1⟩, _⟩ := in_reads (ha q (by omega)) (hi.most _ _) g1
   obtain ⟨d3, I3⟩ := ih _ _ _ _ _ (by omega) (I1.may _) hr
   exact ⟨by rw [d3, may_deep, d1, most_deep], I3⟩
  ·injection hr with hr; injection hr with r1 r2
   subst r2; exact ⟨rfl, hi⟩
set_option maxHeartbeats 8000000 in
theorem con_reads {f : Nat} (hf : f ≤ 1000000000) (ha : ∀ m, m ≤ f → Reads T p o 80 (run T m .tyapp)) : Reads T p o 64 (run T (f + 1) .con) := by
 intro s n s' hi hr
 rw [run_con] at hr
 dsimp only at hr
 have i1 := (hi.word 4).take
 have hR : s'.deep = s.deep ∧ Inv T s' := by
  split at hr
  ·obtain ⟨d, I⟩ := conLoop_inv ha _ _ _ _ _ _ (Nat.le_refl _) (i1.may _) hr
   exact ⟨by rw [d, may_deep, take_deep, word_deep], I⟩
  ·injection hr with hr; injection hr with r1 r2
   subst r2; exact ⟨by rw [take_deep, word_deep], i1⟩
 refine ⟨hR, fun h c d hp hpc => ?_⟩
 clear hR
 refine call_aw b64 rfl rfl rfl ?_; delta b64
 have u1_0 : ∀ h x, upd h (c) x (p) = h (p) := fun h x => upd_ne h x (by omega)
 have u0_1 : ∀ h x, upd h (p) x (c) = h (c) := fun h x => upd_ne h x (by omega)
 have u2_0 : ∀ h x, upd h (c + 1) x (p) = h (p) := fun h x => upd_ne h x (by omega)
 have u0_2 : ∀ h x, upd h (p) x (c + 1) = h (c + 1) := fun h x => upd_ne h x (by omega)
 have u2_1 : ∀ h x, upd h (c + 1) x (c) = h (c) := fun h x => upd_ne h x (by omega)
 have u1_2 : ∀ h x, upd h (c) x (c + 1) = h (c + 1) := fun h x => upd_ne h x (by omega)
 have U0 : _ ∧ _ ∧ _ ∧ _ ∧ _ ∧ _ := ⟨u0_1, u0_2, u1_0, u1_2, u2_0, u2_1⟩
 simp -dsimp -implicitDefEqProofs only [go_sem, Nat.reduceAdd, Nat.reduceEqDiff, reduceIte, reduceCtorEq, Nat.reduceLeDiff, Nat.reduceLT, Nat.reduceSub, Int.reduceEq, Int.reduceLT, preH, OpK_alloc, ldCells, fillV, zeroN, zeroT, pcell, U0, hp]
 refine DoesK_of (word_call (s := s) (o := o) (p := p) hi (by first | exact hp | (simp only [U0, upd_same, hp]; done) | (simp only [U0, upd_same, hp]; rfl) | rfl) (by omega) 4) ?_
 rintro v st ⟨rfl, H1, C1, rfl, f1, P1⟩
 have F1 : Fr h c H1 C1 [p] := by
  refine Fr.trans ?_ f1 (by simp)
  refine Fr.more (c1 := c) ?_ (by omega)
  repeat (first | exact (Fr.refl h c [p]) | refine Fr.upd (c1 := c) ?_ _ (by first | (right; omega) | (left; simp; done)) (Nat.le_refl _))
 have L1 := F1.le
 have M1 := f1.le
 have Z1_1 : H1 (c) = some (.cells zeroN) := (f1.at (by omega) (by simp; omega)).trans (by first | (simp only [U0, upd_same]; done) | rfl | (simp only [U0, upd_same]; rfl))
 have Z1_2 : H1 (c + 1) = some (.cells zeroT) := (f1.at (by omega) (by simp; omega)).trans (by first | (simp only [U0, upd_same]; done) | rfl | (simp only [U0, upd_same]; rfl))
 have u3_0 : ∀ h x, upd h (C1) x (p) = h (p) := fun h x => upd_ne h x (by omega)
 have u0_3 : ∀ h x, upd h (p) x (C1) = h (C1) := fun h x => upd_ne h x (by omega)
 have u3_1 : ∀ h x, upd h (C1) x (c) = h (c) := fun h x => upd_ne h x (by omega)
 have u1_3 : ∀ h x, upd h (c) x (C1) = h (C1) := fun h x => upd_ne h x (by omega)
 have u3_2 : ∀ h x, upd h (C1) x (c + 1) = h (c + 1) := fun h x => upd_ne h x (by omega)
 have u2_3 : ∀ h x, upd h (c + 1) x (C1) = h (C1) := fun h x => upd_ne h x (by omega)
 have U1 : _ ∧ _ ∧ _ ∧ _ ∧ _ ∧ _ ∧ _ ∧ _ ∧ _ ∧ _ ∧ _ ∧ _ := ⟨u0_1, u0_2, u0_3, u1_0, u1_2, u1_3, u2_0, u2_1, u2_3, u3_0, u3_1, u3_2⟩
 simp -dsimp -implicitDefEqProofs only [go_sem, Nat.reduceAdd, Nat.reduceEqDiff, reduceIte, reduceCtorEq, Nat.reduceLeDiff, Nat.reduceLT, Nat.reduceSub, Int.reduceEq, Int.reduceLT, preH, OpK_alloc, ldCells, fillV, zeroN, zeroT, pcell, U1, P1, Z1_1, tkV, tokC, Z1_2]
 refine DoesK_of (node_call 26 _ _ .full _ _ _ _) ?_
 rintro v st ⟨rfl, H2, C2, rfl, f2⟩
 have F2 : Fr h c H2 C2 [p] := by
  refine Fr.trans ?_ f2 (by simp)
  refine Fr.more (c1 := C1) ?_ (by omega)
  repeat (first | exact F1 | refine Fr.upd (c1 := C1) ?_ _ (by first | (right; omega) | (left; simp; done)) (Nat.le_refl _))
 have L2 := F2.le
 have M2 := f2.le
 have P2 : H2 p = _ := (f2.at (by omega) (by simp)).trans (by first | exact P1 | (simp only [U1, upd_same, P1]; rfl))
 have Z2_1 : H2 (c) = some (.cells zeroN) := (f2.at (by omega) (by simp)).trans (by first | (simp only [U1, upd_same, Z1_1]; done) | rfl | (simp only [U1, upd_same, Z1_1]; rfl))
 have Z2_2 : H2 (c + 1) = some (.cells [.int .i64 (look T (wordS T 4 s)).1.k, .str (look T (wordS T 4 s)).1.t, .int .i64 (look T (wordS T 4 s)).1.n, .int .i64 ((look T (wordS T 4 s)).2 : Int)]) := (f2.at (by omega) (by simp)).trans (by first | (simp only [U1, upd_same]; done) | rfl | (simp only [U1, upd_same]; rfl))
 have Z2_3 : H2 (C1) = some (.cells zeroN) := (f2.at (by omega) (by simp)).trans (by first | (simp only [U1, upd_same]; done) | rfl | (simp only [U1, upd_same]; rfl))
 simp -dsimp -implicitDefEqProofs only [go_sem, Nat.reduceAdd, Nat.reduceEqDiff, reduceIte, reduceCtorEq, Nat.reduceLeDiff, Nat.reduceLT, Nat.reduceSub, Int.reduceEq, Int.reduceLT, preH, OpK_alloc, ldCells, fillV, zeroN, zeroT, pcell, U1, P2, Z2_1, Z2_2, Z2_3]
 refine DoesK_of (may_call (o := o) (p := p) i1 (by first | exact P2 | (simp only [U1, upd_same, P2]; done) | (simp only [U1, upd_same, P2]; rfl) | rfl) (by omega) wOf) ?_
 rintro v st ⟨rfl, H3, C3, rfl, f3, P3⟩
 have F3 : Fr h c H3 C3 [p] := by
  refine Fr.trans ?_ f3 (by simp)
  refine Fr.more (c1 := C2) ?_ (by omega)
  repeat (first | exact F2 | refine Fr.upd (c1 := C2) ?_ _ (by first | (right; omega) | (left; simp; done)) (Nat.le_refl _))
 have L3 := F3.le
 have M3 := f3.le
 have Z3_1 : H3 (c) = some (.cells zeroN) := (f3.at (by omega) (by simp; omega)).trans (by first | (simp only [U1, upd_same, Z2_1]; done) | rfl | (simp only [U1, upd_same, Z2_1]; rfl))
 have Z3_2 : H3 (c + 1) = some (.cells [.int .i64 (look T (wordS T 4 s)).1.k, .str (look T (wordS T 4 s)).1.t, .int .i64 (look T (wordS T 4 s)).1.n, .int .i64 ((look T (wordS T 4 s)).2 : Int)]) := (f3.at (by omega) (by simp; omega)).trans (by first | (simp only [U1, upd_same, Z2_2]; done) | rfl | (simp only [U1, upd_same, Z2_2]; rfl))
 have Z3_3 : H3 (C1) = some (.cells [.int .i64 26, .str (look T (wordS T 4 s)).1.t, .int .i64 0, .int .i64 ((look T (wordS T 4 s)).2 : Int), .slice .full [], .slice .full []]) := (f3.at (by omega) (by simp; omega)).trans (by first | (simp only [U1, upd_same]; done) | rfl | (simp only [U1, upd_same]; rfl))
 have L0 : Loc H3 C3 C1 (node 26 (look T (wordS T 4 s)).2 (look T (wordS T 4 s)).1.t []) := Loc.start (by omega) Z3_3
 have F0 := F3; have P0 := P3; have Z0 := Z3_1
 have A0 : c < C1 := by omega
 generalize H3 = H0 at L0 F0 P0 Z0 ⊢; generalize C3 = C0 at L0 F0 P0 Z0 ⊢; generalize C1 = an at L0 A0 ⊢
 cases hof : isW T wOf (takeS T (wordS T 4 s))
 ·rw [hof] at hr
  simp only [Bool.false_eq_true, if_false] at hr
  injection hr with hr; injection hr with r1 r2
  subst r1; subst r2
  have hm : mayS T wOf (takeS T (wordS T 4 s)) = takeS T (wordS T 4 s) := by rw [mayS, hof]; rfl
  rw [hm] at P0
  obtain ⟨o1, o2, es, hZ, hlen, hN⟩ := L0.nr
  simp -dsimp -implicitDefEqProofs only [go_sem, Nat.reduceAdd, Nat.reduceEqDiff, reduceIte, reduceCtorEq, Nat.reduceLeDiff, Nat.reduceLT, Nat.reduceSub, Int.reduceEq, Int.reduceLT, hZ, Z0, zeroN, ldCells]
  exact ⟨hN, _, _, rfl, F0.upd _ (.inr (Nat.le_refl _)) (Nat.le_refl _), by rw [upd_ne _ _ (by omega)]; exact P0⟩
 ·rw [hof] at hr
  simp only [if_true] at hr
  have hnl : (node 26 ((look T (wordS T 4 s)).2 : Int) (look T (wordS T 4 s)).1.t []).ks.length = 0 := rfl
  generalize node 26 ((look T (wordS T 4 s)).2 : Int) (look T (wordS T 4 s)).1.t [] = N0 at L0 hr hnl
  have iM := i1.may wOf
  generalize mayS T wOf (takeS T (wordS T 4 s)) = S0 at P0 hr iM
  simp -dsimp -implicitDefEqProofs only [go_sem, Nat.reduceAdd, Nat.reduceEqDiff, reduceIte, reduceCtorEq, Nat.reduceLeDiff, Nat.reduceLT, Nat.reduceSub, Int.reduceEq, Int.reduceLT]
  let I : Nat → AEnv → ASt → Prop := fun m e st => ∃ (nd : Nd) (more : Bool) (sk : PS) (H : Hp) (C : Nat), nd.ks.length + m ≤ f ∧ run T m (.conLoop nd more) sk = some (n, s') ∧ Inv T sk ∧ Fr h c H C [p] ∧ H p = some (pcell o T sk) ∧ H c = some (.cells zeroN) ∧ Loc H C an nd ∧
   e.get 0 = .ptr p 0 ∧ e.get 2 = .ptr c 0 ∧ e.get 4 = .ptr an 0 ∧ e.get 5 = .bool more ∧ st = ⟨H, C, []⟩
  refine LoopK_rule I f ⟨N0, true, S0, H0, C0, by omega, hr, iM, F0, P0, Z0, L0, rfl, rfl, rfl, rfl, rfl⟩ ?_
  rintro m e st ⟨nd, more, sk, H, C, hm, hrk, Ik, HF, HP, Zc, HL, g0, g2, g4, g5, rfl⟩
  have hC := HL.lt
  cases m with
  | zero => cases hrk
  | succ m =>
  rw [run_conLoop] at hrk
  obtain ⟨o1, o2, es, hZ, hlen, hN⟩ := HL.nr
  have hpk : H p = some (pcell o T sk) := HP
  cases hq : more && decide (sk.e = 0)
  ·rw [hq, if_neg (by simp)] at hrk
   injection hrk with hrk; injection hrk with r1 r2
   subst r1; subst r2
   have fin : Fr h c (upd H c (.cells [.int .i64 nd.k, .str nd.t, .int .i64 nd.n, .int .i64 nd.a, .slice o1 (nd.ns.map AV.str), .slice o2 es])) C [p] ∧ upd H c (.cells [.int .i64 nd.k, .str nd.t, .int .i64 nd.n, .int .i64 nd.a, .slice o1 (nd.ns.map AV.str), .slice o2 es]) p = some (pcell o T sk) := ⟨HF.upd _ (.inr (Nat.le_refl _)) (Nat.le_refl _), by rw [upd_ne _ _ (by omega)]; exact HP⟩
   cases more
   ·simp -dsimp -implicitDefEqProofs only [go_sem, Nat.reduceAdd, Nat.reduceEqDiff, reduceIte, reduceCtorEq, Nat.reduceLeDiff, Nat.reduceLT, Nat.reduceSub, Int.reduceEq, Int.reduceLT, g0, g2, g4, g5, hZ, Zc, zeroN, ldCells]
    exact ⟨hN, _, _, rfl, fin.1, fin.2⟩
   ·have he : decide (sk.e = 0) = false := by simpa using hq
    simp -dsimp -implicitDefEqProofs only [go_sem, Nat.reduceAdd, Nat.reduceEqDiff, reduceIte, reduceCtorEq, Nat.reduceLeDiff, Nat.reduceLT, Nat.reduceSub, Int.reduceEq, Int.reduceLT, g0, g2, g4, g5, hZ, Zc, zeroN, ldCells, HP, pcell, he]
    exact ⟨hN, _, _, rfl, fin.1, fin.2⟩
  ·rw [hq, if_pos rfl] at hrk
   simp only [Bool.and_eq_true] at hq
   obtain ⟨rfl, he⟩ := hq
   split at hrk
   case h_2 => cases hrk
   rename_i n2 s2 q2
   obtain ⟨⟨e1, J1⟩, e2⟩ := in_reads (ha m (by omega)) (Ik.most _ _) q2
   simp -dsimp -implicitDefEqProofs only [go_sem, Nat.reduceAdd, Nat.reduceEqDiff, reduceIte, reduceCtorEq, Nat.reduceLeDiff, Nat.reduceLT, Nat.reduceSub, Int.reduceEq, Int.reduceLT, g0, g2, g4, g5, hZ, hlen, ldCells, HP, pcell, he]
   refine DoesK_of (most_call (o := o) (p := p) Ik HP (by omega) _ _) ?_
   rintro v st ⟨rfl, H5, C5, rfl, f5, P5⟩
   have hL5 := HL.keep f5 (by simp; omega)
   have F5 := HF.trans f5 (by simp)
   have Z5 : H5 c = some (.cells zeroN) := (f5.at (by omega) (by simp; omega)).trans Zc
   simp -dsimp -implicitDefEqProofs only [go_sem, Nat.reduceAdd, Nat.reduceEqDiff, reduceIte, reduceCtorEq, Nat.reduceLeDiff, Nat.reduceLT, Nat.reduceSub, Int.reduceEq, Int.reduceLT]
   refine grow_region (nT := 4) (b := 32) (vs := [.func 80 [] []]) (an := an) (h := h) (c := c) (nd := nd) (x := n2) (s := mostS T nd.ks.length 4 sk) (s' := s2) (o := o) (by simp only [get_cons, Nat.reduceEqDiff, reduceIte]; exact g0) (by simp only [get_cons, Nat.reduceEqDiff, reduceIte]; exact g4) (by omega) (by omega) F5 (by omega) hpc hL5 P5 (by omega) e2 (fun e6 H6 C6 he6 F6 hk6 P6 L6 hC6 => ?_)
   have G : ∀ t, t < 5 → e6.get t = e.get t := fun t ht => by
    rw [he6 t (by omega)]
    simp only [get_cons]
    repeat rw [if_neg (by omega)]
   have hC6' := L6.lt
   simp -dsimp -implicitDefEqProofs only [go_sem, Nat.reduceAdd, Nat.reduceEqDiff, reduceIte, reduceCtorEq, Nat.reduceLeDiff, Nat.reduceLT, Nat.reduceSub, Int.reduceEq, Int.reduceLT, (G 0 (by omega)).trans g0]
   refine DoesK_of (may_call (o := o) (p := p) J1 P6 (by omega) [44]) ?_
   rintro v st ⟨rfl, H7, C7, rfl, f7, P7⟩
   simp -dsimp -implicitDefEqProofs only [go_sem, Nat.reduceAdd, Nat.reduceEqDiff, reduceIte, reduceCtorEq, Nat.reduceLeDiff, Nat.reduceLT, Nat.reduceSub, Int.reduceEq, Int.reduceLT]
   have Gx : e6.get 0 = .ptr p 0 := (G 0 (by omega)).trans g0
   have Gy : e6.get 2 = .ptr c 0 := (G 2 (by omega)).trans g2
   have Gz : e6.get 4 = .ptr an 0 := (G 4 (by omega)).trans g4
   refine Again.of m (by omega) ⟨nd.add [n2], isW T [44] s2, mayS T [44] s2, H7, C7, by obtain ⟨_, _, _, _, _, _⟩ := nd; simp only [Nd.add, Nd.ks, List.length_append, List.length_cons, List.length_nil] at hm ⊢; omega, hrk, J1.may _, F6.trans f7 (by simp), P7, (f7.at (by omega) (by simp; omega)).trans ((hk6 c (by omega) (by omega)).trans Z5), L6.keep f7 (by simp; omega), by simp only [get_cons, Nat.reduceEqDiff, reduceIte]; exact Gx, by simp only [get_cons, Nat.reduceEqDiff, reduceIte]; exact Gy, by simp only [get_cons, Nat.reduceEqDiff, reduceIte]; exact Gz, rfl, rfl⟩
end
section
variable {T : List Tok} {p : Nat} {o : Own}
theorem tyLoop_inv {f : Nat} (ha : ∀ m, m ≤ f → Reads T p o 80 (run T m .tyapp)) : ∀ (q : Nat) (nd : Nd) (s : PS) (n : Nd) (s' : PS), q ≤ f → Inv T s → run T q (.tyLoop nd) s = some (n, s') → s'.deep = s.deep ∧ Inv T s' := by
 intro q
 induction q with
 | zero => intro nd s n s' hq hi hr; cases hr
 | succ q ih =>
  intro nd s n s' hq hi hr
  rw [run_tyLoop] at hr
  split at hr
  ·obtain ⟨d3, I3⟩ := ih _ _ _ _ (by omega) hi.take hr
   exact ⟨by rw [d3, take_deep], I3⟩
  split at hr
  ·split at hr
   case h_2 => cases hr
   rename_i n1 s1 g1
   obtain ⟨⟨d1, I1⟩, _⟩ := round_reads (ha q (by omega)) hi g1
   obtain ⟨d3, I3⟩ := ih _ _ _ _ (by omega) I1 hr
   exact ⟨by rw [d3, d1], I3⟩
  ·injection hr with hr; injection hr with r1 r2
   subst r2; exact ⟨rfl, hi⟩
set_option maxHeartbeats 8000000 in
theorem tyapp_reads {f : Nat} (hf : f ≤ 1000000000) (ha : ∀ m, m ≤ f → Reads T p o 80 (run T m .tyapp)) : Reads T p o 80 (run T (f + 1) .tyapp) := by
 intro s n s' hi hr
 rw [run_tyapp] at hr
 dsimp only at hr
 have i1 := (hi.word 3).take
 have hR : s'.deep = s.deep ∧ Inv T s' := by
  obtain ⟨d, I⟩ := tyLoop_inv ha _ _ _ _ _ (Nat.le_refl _) i1 hr
  exact ⟨by rw [d, take_deep, word_deep], I⟩
 refine ⟨hR, fun h c d hp hpc => ?_⟩
 clear hR
 refine call_aw b80 rfl rfl rfl ?_; delta b80
 have u1_0 : ∀ h x, upd h (c) x (p) = h (p) := fun h x => upd_ne h x (by omega)
 have u0_1 : ∀ h x, upd h (p) x (c) = h (c) := fun h x => upd_ne h x (by omega)
 have u2_0 : ∀ h x, upd h (c + 1) x (p) = h (p) := fun h x => upd_ne h x (by omega)
 have u0_2 : ∀ h x, upd h (p) x (c + 1) = h (c + 1) := fun h x => upd_ne h x (by omega)
 have u2_1 : ∀ h x, upd h (c + 1) x (c) = h (c) := fun h x => upd_ne h x (by omega)
 have u1_2 : ∀ h x, upd h (c) x (c + 1) = h (c + 1) := fun h x => upd_ne h x (by omega)
 have U0 : _ ∧ _ ∧ _ ∧ _ ∧ _ ∧ _ := ⟨u0_1, u0_2, u1_0, u1_2, u2_0, u2_1⟩
 simp -dsimp -implicitDefEqProofs only [go_sem, Nat.reduceAdd, Nat.reduceEqDiff, reduceIte, reduceCtorEq, Nat.reduceLeDiff, Nat.reduceLT, Nat.reduceSub, Int.reduceEq, Int.reduceLT, preH, OpK_alloc, ldCells, fillV, zeroN, zeroT, pcell, U0, hp]
 refine DoesK_of (word_call (s := s) (o := o) (p := p) hi (by first | exact hp | (simp only [U0, upd_same, hp]; done) | (simp only [U0, upd_same, hp]; rfl) | rfl) (by omega) 3) ?_
 rintro v st ⟨rfl, H1, C1, rfl, f1, P1⟩
 have F1 : Fr h c H1 C1 [p] := by
  refine Fr.trans ?_ f1 (by simp)
  refine Fr.more (c1 := c) ?_ (by omega)
  repeat (first | exact (Fr.refl h c [p]) | refine Fr.upd (c1 := c) ?_ _ (by first | (right; omega) | (left; simp; done)) (Nat.le_refl _))
 have L1 := F1.le
 have M1 := f1.le
 have Z1_1 : H1 (c) = some (.cells zeroN) := (f1.at (by omega) (by simp; omega)).trans (by first | (simp only [U0, upd_same]; done) | rfl | (simp only [U0, upd_same]; rfl))
 have Z1_2 : H1 (c + 1) = some (.cells zeroT) := (f1.at (by omega) (by simp; omega)).trans (by first | (simp only [U0, upd_same]; done) | rfl | (simp only [U0, upd_same]; rfl))
 have u3_0 : ∀ h x, upd h (C1) x (p) = h (p) := fun h x => upd_ne h x (by omega)
 have u0_3 : ∀ h x, upd h (p) x (C1) = h (C1) := fun h x => upd_ne h x (by omega)
 have u3_1 : ∀ h x, upd h (C1) x (c) = h (c) := fun h x => upd_ne h x (by omega)
 have u1_3 : ∀ h x, upd h (c) x (C1) = h (C1) := fun h x => upd_ne h x (by omega)
 have u3_2 : ∀ h x, upd h (C1) x (c + 1) = h (c + 1) := fun h x => upd_ne h x (by omega)
 have u2_3 : ∀ h x, upd h (c + 1) x (C1) = h (C1) := fun h x => upd_ne h x (by omega)
 have U1 : _ ∧ _ ∧ _ ∧ _ ∧ _ ∧ _ ∧ _ ∧ _ ∧ _ ∧ _ ∧ _ ∧ _ := ⟨u0_1, u0_2, u0_3, u1_0, u1_2, u1_3, u2_0, u2_1, u2_3, u3_0, u3_1, u3_2⟩
 simp -dsimp -implicitDefEqProofs only [go_sem, Nat.reduceAdd, Nat.reduceEqDiff, reduceIte, reduceCtorEq, Nat.reduceLeDiff, Nat.reduceLT, Nat.reduceSub, Int.reduceEq, Int.reduceLT, preH, OpK_alloc, ldCells, fillV, zeroN, zeroT, pcell, U1, P1, Z1_1, tkV, tokC, Z1_2]
 refine DoesK_of (node_call 27 _ _ .full _ _ _ _) ?_
 rintro v st ⟨rfl, H2, C2, rfl, f2⟩
 have F2 : Fr h c H2 C2 [p] := by
  refine Fr.trans ?_ f2 (by simp)
  refine Fr.more (c1 := C1) ?_ (by omega)
  repeat (first | exact F1 | refine Fr.upd (c1 := C1) ?_ _ (by first | (right; omega) | (left; simp; done)) (Nat.le_refl _))
 have L2 := F2.le
 have M2 := f2.le
 have P2 : H2 p = _ := (f2.at (by omega) (by simp)).trans (by first | exact P1 | (simp only [U1, upd_same, P1]; rfl))
 have Z2_1 : H2 (c) = some (.cells zeroN) := (f2.at (by omega) (by simp)).trans (by first | (simp only [U1, upd_same, Z1_1]; done) | rfl | (simp only [U1, upd_same, Z1_1]; rfl))
 have Z2_2 : H2 (c + 1) = some (.cells [.int .i64 (look T (wordS T 3 s)).1.k, .str (look T (wordS T 3 s)).1.t, .int .i64 (look T (wordS T 3 s)).1.n, .int .i64 ((look T (wordS T 3 s)).2 : Int)]) := (f2.at (by omega) (by simp)).trans (by first | (simp only [U1, upd_same]; done) | rfl | (simp only [U1, upd_same]; rfl))
 have Z2_3 : H2 (C1) = some (.cells zeroN) := (f2.at (by omega) (by simp)).trans (by first | (simp only [U1, upd_same]; done) | rfl | (simp only [U1, upd_same]; rfl))
 simp -dsimp -implicitDefEqProofs only [go_sem, Nat.reduceAdd, Nat.reduceEqDiff, reduceIte, reduceCtorEq, Nat.reduceLeDiff, Nat.reduceLT, Nat.reduceSub, Int.reduceEq, Int.reduceLT, preH, OpK_alloc, ldCells, fillV, zeroN, zeroT, pcell, U1, P2, Z2_1, Z2_2, Z2_3, Z2_3]
 obtain ⟨H0, hH0⟩ : ∃ x, x = upd H2 (C1) (.cells [.int .i64 27, .str (look T (wordS T 3 s)).1.t, .int .i64 0, .int .i64 ((look T (wordS T 3 s)).2 : Int), .slice .full [], .slice .full []]) := ⟨_, rfl⟩
 have P0 : H0 p = some (pcell o T (takeS T (wordS T 3 s))) := by rw [hH0, upd_ne _ _ (by omega)]; exact P2
 have Z0 : H0 c = some (.cells zeroN) := by rw [hH0, upd_ne _ _ (by omega)]; exact Z2_1
 have F0 : Fr h c H0 C2 [p] := by rw [hH0]; exact F2.upd _ (.inr (by omega)) (Nat.le_refl _)
 have L0 : Loc H0 C2 (C1) (node 27 (look T (wordS T 3 s)).2 (look T (wordS T 3 s)).1.t []) := Loc.start (by omega) (by rw [hH0]; exact upd_same _ _ _)
 have A0 : c < C1 := by omega
 rw [← hH0]
 clear hH0
 generalize C2 = C0 at L0 F0 ⊢
 generalize C1 = an at L0 A0 ⊢
 have hnl : (node 27 ((look T (wordS T 3 s)).2 : Int) (look T (wordS T 3 s)).1.t []).ks.length = 0 := rfl
 generalize node 27 ((look T (wordS T 3 s)).2 : Int) (look T (wordS T 3 s)).1.t [] = N0 at L0 hr hnl
 generalize takeS T (wordS T 3 s) = S0 at P0 hr i1
 let I : Nat → AEnv → ASt → Prop := fun m e st => ∃ (nd : Nd) (sk : PS) (H : Hp) (C : Nat), nd.ks.length + m ≤ f ∧ run T m (.tyLoop nd) sk = some (n, s') ∧ Inv T sk ∧ Fr h c H C [p] ∧ H p = some (pcell o T sk) ∧ H c = some (.cells zeroN) ∧ Loc H C an nd ∧
  e.get 0 = .ptr p 0 ∧ e.get 2 = .ptr c 0 ∧ e.get 4 = .ptr an 0 ∧ st = ⟨H, C, []⟩
 refine LoopK_rule I f ⟨N0, S0, H0, C0, by omega, hr, i1, F0, P0, Z0, L0, rfl, rfl, rfl, rfl⟩ ?_
 rintro m e st ⟨nd, sk, H, C, hm, hrk, Ik, HF, HP, Zc, HL, g0, g2, g4, rfl⟩
 have hC := HL.lt
 cases m with
 | zero => cases hrk
 | succ m =>
 rw [run_tyLoop] at hrk
 simp -dsimp -implicitDefEqProofs only [go_sem, Nat.reduceAdd, Nat.reduceEqDiff, reduceIte, reduceCtorEq, Nat.reduceLeDiff, Nat.reduceLT, Nat.reduceSub, Int.reduceEq, Int.reduceLT, preH, g0]
 refine DoesK_of (look_call (s := sk) (o := o) (p := p) Ik (by rw [upd_ne _ _ (by omega)]; exact HP) (by omega)) ?_
 rintro v st ⟨rfl, H1, C1, rfl, f1, P1⟩
 have l1 := f1.le
 have Y1 : H1 C = some (.cells zeroT) := (f1.at (by omega) (by simp; omega)).trans (upd_same _ _ _)
 have F1 : Fr h c H1 C1 [p] := (HF.upd _ (.inr (by omega)) (Nat.le_succ _)).trans f1 (by simp)
 have Z1 : H1 c = some (.cells zeroN) := (f1.at (by omega) (by simp; omega)).trans (by rw [upd_ne _ _ (by omega)]; exact Zc)
 have L1 : Loc H1 C an nd := (HL.upd C (.cells zeroT) (.inr (Nat.le_refl _)) (Nat.le_refl _)).keepB f1 (Nat.le_succ _) (by simp; omega)
 simp -dsimp -implicitDefEqProofs only [go_sem, Nat.reduceAdd, Nat.reduceEqDiff, reduceIte, reduceCtorEq, Nat.reduceLeDiff, Nat.reduceLT, Nat.reduceSub, Int.reduceEq, Int.reduceLT, OpK_alloc, Y1, zeroT, tkV, tokC, ldCells]
 obtain ⟨H2, hH2⟩ : ∃ x, x = upd H1 C (.cells [.int .i64 (look T sk).1.k, .str (look T sk).1.t, .int .i64 (look T sk).1.n, .int .i64 ((look T sk).2 : Int)]) := ⟨_, rfl⟩
 have P2 : H2 p = some (pcell o T sk) := by rw [hH2, upd_ne _ _ (by omega)]; exact P1
 have Z2 : H2 c = some (.cells zeroN) := by rw [hH2, upd_ne _ _ (by omega)]; exact Z1
 have F2 : Fr h c H2 C1 [p] := by rw [hH2]; exact F1.upd _ (.inr (by omega)) (Nat.le_refl _)
 have L2 : Loc H2 C1 an nd := by rw [hH2]; exact (L1.upd C _ (.inr (Nat.le_refl _)) (Nat.le_refl _)).more (by omega)
 have Y2 : H2 C = some (.cells [.int .i64 (look T sk).1.k, .str (look T sk).1.t, .int .i64 (look T sk).1.n, .int .i64 ((look T sk).2 : Int)]) := by rw [hH2, upd_same]
 rw [← hH2]
 clear hH2
 have hL2 := L2.lt
 have hCb : C < C1 := by omega
 obtain ⟨o1, o2, es, hZ, hlen, hN⟩ := L2.nr
 cases hk : decide ((look T sk).1.k = 3)
 ·have hk' : ¬ (look T sk).1.k = 3 := by simpa using hk
  rw [if_neg hk'] at hrk
  simp -dsimp -implicitDefEqProofs only [go_sem, Nat.reduceAdd, Nat.reduceEqDiff, reduceIte, reduceCtorEq, Nat.reduceLeDiff, Nat.reduceLT, Nat.reduceSub, Int.reduceEq, Int.reduceLT, Y2, ldCells, hk, g0]
  refine DoesK_of (isw_call (o := o) (p := p) Ik P2 (by omega) [40]) ?_
  rintro v st ⟨rfl, H5, C5, rfl, f5, P5⟩
  have L5 := L2.keep f5 (by simp; omega)
  have F5 := F2.trans f5 (by simp)
  have Z5 : H5 c = some (.cells zeroN) := (f5.at (by omega) (by simp; omega)).trans Z2
  cases hq : isW T [40] sk
  ·rw [hq, if_neg (by simp)] at hrk
   injection hrk with hrk; injection hrk with r1 r2
   subst r1; subst r2
   obtain ⟨o1, o2, es, hZ, hlen, hN⟩ := L5.nr
   simp -dsimp -implicitDefEqProofs only [go_sem, Nat.reduceAdd, Nat.reduceEqDiff, reduceIte, reduceCtorEq, Nat.reduceLeDiff, Nat.reduceLT, Nat.reduceSub, Int.reduceEq, Int.reduceLT, g4, g2, hZ, Z5, zeroN, ldCells]
   exact ⟨hN, _, _, rfl, F5.upd _ (.inr (Nat.le_refl _)) (Nat.le_refl _), by rw [upd_ne _ _ (by omega)]; exact P5⟩
  ·rw [hq, if_pos rfl] at hrk
   split at hrk
   case h_2 => cases hrk
   rename_i n2 s2 q2
   obtain ⟨⟨e1, J1⟩, e2⟩ := round_reads (ha m (by omega)) Ik q2
   simp -dsimp -implicitDefEqProofs only [go_sem, Nat.reduceAdd, Nat.reduceEqDiff, reduceIte, reduceCtorEq, Nat.reduceLeDiff, Nat.reduceLT, Nat.reduceSub, Int.reduceEq, Int.reduceLT]
   refine grow_region (nT := 4) (b := 35) (vs := [.func 80 [] []]) (an := an) (h := h) (c := c) (nd := nd) (x := n2) (s := sk) (s' := s2) (o := o) (by simp only [get_cons, Nat.reduceEqDiff, reduceIte]; exact g0) (by simp only [get_cons, Nat.reduceEqDiff, reduceIte]; exact g4) (by omega) (by omega) F5 (by omega) hpc L5 P5 (by omega) e2 (fun e6 H6 C6 he6 F6 hk6 P6 L6 hC6 => ?_)
   have G : ∀ t, t < 5 → e6.get t = e.get t := fun t ht => by
    rw [he6 t (by omega)]
    simp only [get_cons]
    repeat rw [if_neg (by omega)]
   simp -dsimp -implicitDefEqProofs only [go_sem, Nat.reduceAdd, Nat.reduceEqDiff, reduceIte, reduceCtorEq, Nat.reduceLeDiff, Nat.reduceLT, Nat.reduceSub, Int.reduceEq, Int.reduceLT]
   refine Again.of m (by omega) ⟨nd.add [n2], s2, H6, C6, by obtain ⟨_, _, _, _, _, _⟩ := nd; simp only [Nd.add, Nd.ks, List.length_append, List.length_cons, List.length_nil] at hm ⊢; omega, hrk, J1, F6, P6, (hk6 c (by omega) (by omega)).trans Z5, L6, (G 0 (by omega)).trans g0, (G 2 (by omega)).trans g2, (G 4 (by omega)).trans g4, rfl⟩
 ·have hk' : (look T sk).1.k = 3 := by simpa using hk
  rw [if_pos hk'] at hrk
  simp -dsimp -implicitDefEqProofs only [go_sem, Nat.reduceAdd, Nat.reduceEqDiff, reduceIte, reduceCtorEq, Nat.reduceLeDiff, Nat.reduceLT, Nat.reduceSub, Int.reduceEq, Int.reduceLT, Y2, ldCells, hk, g0]
  refine DoesK_of (take_call (o := o) (p := p) Ik P2 (by omega)) ?_
  rintro v st ⟨rfl, H5, C5, rfl, f5, P5⟩
  have L5 := L2.keep f5 (by simp; omega)
  have F5 := F2.trans f5 (by simp)
  have Z5 : H5 c = some (.cells zeroN) := (f5.at (by omega) (by simp; omega)).trans Z2
  have Y5 : H5 C = _ := (f5.at hCb (by simp; omega)).trans Y2
  have l5 := f5.le
  obtain ⟨i, q1, es5, w1, w2, w3⟩ := L5
  simp -dsimp -implicitDefEqProofs only [go_sem, Nat.reduceAdd, Nat.reduceEqDiff, reduceIte, reduceCtorEq, Nat.reduceLeDiff, Nat.reduceLT, Nat.reduceSub, Int.reduceEq, Int.reduceLT, Aw_region1, OpsK_some1, OpsK_none1, OpsK_guard1, maskOf, List.flatMap_cons, List.flatMap_nil, preH, g0, g2, g4, w2, Y5, ldCells]
  refine DoesK_of (node_call 27 _ _ .full [] _ _ _) ?_
  intro v st hv
  obtain ⟨hv1, H6, C6, hst, f6⟩ := hv
  subst hv1
  subst hst
  have l6 := f6.le
  have F6 : Fr h c H6 C6 [p] := (F5.more (Nat.le_succ C5)).trans f6 (by simp)
  have P6 : H6 p = _ := (f6.at (by omega) (by simp)).trans P5
  have Z6 : H6 c = _ := (f6.at (by omega) (by simp)).trans Z5
  have W6 : H6 an = _ := (f6.at (by omega) (by simp)).trans w2
  have R6 : Row H6 C6 an i nd.ks es5 := (w3.more (Nat.le_succ C5)).keep f6 (by simp)
  have NX : NR (node 27 ((look T sk).2 : Int) (look T sk).1.t []) (.agg [.int .i64 27, .str (look T sk).1.t, .int .i64 0, .int .i64 ((look T sk).2 : Int), .slice .full [], .slice .full []]) := .mk rfl (fun i x v h => by simp at h)
  have hone := R6.one (b := C5) (d := []) (o := .full) (by omega) (by omega) NX (by omega)
  have happ := hone.1
  have hR2 := hone.2
  clear hone
  have hj := R6.id (b := C5) (by omega) (by omega)
  generalize i.getD C5 = j at happ hR2 hj
  have u : ∀ h x, upd h j x an = h an := fun h x => upd_ne h x (by omega)
  simp -dsimp -implicitDefEqProofs only [go_sem, Nat.reduceAdd, Nat.reduceEqDiff, reduceIte, reduceCtorEq, Nat.reduceLeDiff, Nat.reduceLT, Nat.reduceSub, Int.reduceEq, Int.reduceLT, Aw_region1, OpsK_some1, OpsK_none1, OpsK_guard1, maskOf, List.flatMap_cons, List.flatMap_nil, W6, g0, g2, g4, ldCells, partsV, happ, u]
  simp only [List.contains_cons, List.contains_nil, Nat.reduceBEq, Bool.or_false, Bool.or_true, Bool.false_or, Bool.true_or, Bool.false_eq_true, if_true, if_false, opKey, ldKey, ev_tmp, get_cons, Nat.reduceEqDiff, reduceIte, Stable_cons, Stable_nil, List.forall_mem_cons, and_true, true_and]
  refine ⟨by simp [g4, w2, W6], ?_⟩
  obtain ⟨nk, nt, nn, na, nns, nks⟩ := nd
  refine Again.of m (by omega) ⟨(Nd.mk nk nt nn na nns nks).add [node 27 ((look T sk).2 : Int) (look T sk).1.t []], takeS T sk, _, _, by simp only [Nd.add, Nd.ks, List.length_append, List.length_cons, List.length_nil] at hm ⊢; omega, hrk, Ik.take, (F6.upd _ (.inr (by omega)) (Nat.le_refl _)).upd _ (.inr (by omega)) (Nat.le_refl _), by rw [upd_ne _ _ (by omega), upd_ne _ _ (by omega), P6], by rw [upd_ne _ _ (by omega), upd_ne _ _ (by omega), Z6], ⟨some j, q1, _, by omega, upd_same _ _ _, hR2.upd an _ (.inl (Nat.le_refl _)) (Nat.le_refl _)⟩, g0, g2, g4, rfl⟩
end
section
variable {T : List Tok} {p : Nat} {o : Own}
theorem consLoop_inv {f : Nat} (ha : ∀ m, m ≤ f → Reads T p o 64 (run T m .con)) : ∀ (q : Nat) (more : Bool) (nd : Nd) (s : PS) (n : Nd) (s' : PS), q ≤ f → Inv T s → run T q (.consLoop nd more) s = some (n, s') → s'.deep = s.deep ∧ Inv T s' := by
 intro q
 induction q with
 | zero => intro _ nd s n s' hq hi hr; cases hr
 | succ q ih =>
  intro more nd s n s' hq hi hr
  rw [run_consLoop] at hr
  split at hr
  ·split at hr
   case h_2 => cases hr
   rename_i n1 s1 g1
   obtain ⟨⟨d1, I1⟩, _⟩ := ha q (by omega) _ _ _ (hi.most _ _) g1
   obtain ⟨d3, I3⟩ := ih _ _ _ _ _ (by omega) (I1.may _) hr
   exact ⟨by rw [d3, may_deep, d1, most_deep], I3⟩
  ·injection hr with hr; injection hr with r1 r2
   subst r2; exact ⟨rfl, hi⟩
theorem namesLoop_inv : ∀ (q : Nat) (nd : Nd) (s : PS) (n : Nd) (s' : PS), Inv T s → run T q (.namesLoop nd) s = some (n, s') → (s'.deep = s.deep ∧ Inv T s') ∧ n.ns.length ≤ nd.ns.length + q ∧ n.ks = nd.ks := by
 intro q
 induction q with
 | zero => intro nd s n s' hi hr; cases hr
 | succ q ih =>
  intro nd s n s' hi hr
  rw [run_namesLoop] at hr
  split at hr
  ·obtain ⟨⟨d3, I3⟩, l3, k3⟩ := ih _ _ _ _ (hi.most _ _).take hr
   refine ⟨⟨by rw [d3, take_deep, most_deep], I3⟩, ?_, ?_⟩
   ·obtain ⟨_, _, _, _, _, _⟩ := nd; simp only [Nd.name, Nd.ns, List.length_append, List.length_cons, List.length_nil] at l3 ⊢; omega
   ·rw [k3]; obtain ⟨_, _, _, _, _, _⟩ := nd; rfl
  ·injection hr with hr; injection hr with r1 r2
   subst r2; subst r1; exact ⟨⟨rfl, hi⟩, by omega, rfl⟩
set_option maxHeartbeats 8000000 in
theorem decltype_reads {f : Nat} (hf : f ≤ 1000000000) (ha : ∀ m, m ≤ f → Reads T p o 64 (run T m .con)) : Reads T p o 48 (run T (f + 1) .decltype) := by
 intro s n s' hi hr
 rw [run_decltype] at hr
 dsimp only at hr
 split at hr
 case h_2 => cases hr
 rename_i n1 s1 h1
 have i0 := hi.take
 have i1 := (i0.word 3).take
 obtain ⟨⟨d1, I1⟩, hnl, hnk⟩ := namesLoop_inv _ _ _ _ _ i1 h1
 obtain ⟨d2, I2⟩ := consLoop_inv ha _ _ _ _ _ _ (Nat.le_refl _) (I1.must _) hr
 refine ⟨⟨by rw [d2, must_deep, d1, take_deep, word_deep, take_deep], I2⟩, fun h c d hp hpc => ?_⟩
 refine call_aw b48 rfl rfl rfl ?_; delta b48
 have u1_0 : ∀ h x, upd h (c) x (p) = h (p) := fun h x => upd_ne h x (by omega)
 have u0_1 : ∀ h x, upd h (p) x (c) = h (c) := fun h x => upd_ne h x (by omega)
 simp -dsimp -implicitDefEqProofs only [go_sem, Nat.reduceAdd, Nat.reduceEqDiff, reduceIte, reduceCtorEq, Nat.reduceLeDiff, Nat.reduceLT, Nat.reduceSub, Int.reduceEq, Int.reduceLT, preH, OpK_alloc, ldCells, fillV, zeroN, zeroT, pcell, u0_1, u1_0, hp]
 refine DoesK_of (take_call (s := s) (o := o) (p := p) hi (by first | exact hp | (simp only [u0_1, u1_0, upd_same, hp]; done) | (simp only [u0_1, u1_0, upd_same, hp]; rfl) | rfl) (by omega)) ?_
 rintro v st ⟨rfl, H1, C1, rfl, f1, P1⟩
 have F1 : Fr h c H1 C1 [p] := by
  refine Fr.trans ?_ f1 (by simp)
  refine Fr.more (c1 := c) ?_ (by omega)
  repeat (first | exact (Fr.refl h c [p]) | refine Fr.upd (c1 := c) ?_ _ (by first | (right; omega) | (left; simp; done)) (Nat.le_refl _))
 have L1 := F1.le
 have M1 := f1.le
 have Z1_1 : H1 (c) = some (.cells zeroN) := (f1.at (by omega) (by simp; omega)).trans (by first | (simp only [u0_1, u1_0, upd_same]; done) | rfl | (simp only [u0_1, u1_0, upd_same]; rfl))
 have u2_0 : ∀ h x, upd h (C1) x (p) = h (p) := fun h x => upd_ne h x (by omega)
 have u0_2 : ∀ h x, upd h (p) x (C1) = h (C1) := fun h x => upd_ne h x (by omega)
 have u2_1 : ∀ h x, upd h (C1) x (c) = h (c) := fun h x => upd_ne h x (by omega)
 have u1_2 : ∀ h x, upd h (c) x (C1) = h (C1) := fun h x => upd_ne h x (by omega)
 have U0 : _ ∧ _ ∧ _ ∧ _ ∧ _ ∧ _ := ⟨u0_1, u0_2, u1_0, u1_2, u2_0, u2_1⟩
 simp -dsimp -implicitDefEqProofs only [go_sem, Nat.reduceAdd, Nat.reduceEqDiff, reduceIte, reduceCtorEq, Nat.reduceLeDiff, Nat.reduceLT, Nat.reduceSub, Int.reduceEq, Int.reduceLT, preH, OpK_alloc, ldCells, fillV, zeroN, zeroT, pcell, U0, P1, Z1_1, fld_a]
 refine DoesK_of (word_call (o := o) (p := p) i0 (by first | exact P1 | (simp only [U0, upd_same, P1]; done) | (simp only [U0, upd_same, P1]; rfl) | rfl) (by omega) 3) ?_
 rintro v st ⟨rfl, H2, C2, rfl, f2, P2⟩
 have F2 : Fr h c H2 C2 [p] := by
  refine Fr.trans ?_ f2 (by simp)
  refine Fr.more (c1 := C1) ?_ (by omega)
  repeat (first | exact F1 | refine Fr.upd (c1 := C1) ?_ _ (by first | (right; omega) | (left; simp; done)) (Nat.le_refl _))
 have L2 := F2.le
 have M2 := f2.le
 have Z2_1 : H2 (c) = some (.cells zeroN) := (f2.at (by omega) (by simp; omega)).trans (by first | (simp only [U0, upd_same, Z1_1]; done) | rfl | (simp only [U0, upd_same, Z1_1]; rfl))
 have Z2_2 : H2 (C1) = some (.cells zeroN) := (f2.at (by omega) (by simp; omega)).trans (by first | (simp only [U0, upd_same]; done) | rfl | (simp only [U0, upd_same]; rfl))
 simp -dsimp -implicitDefEqProofs only [go_sem, Nat.reduceAdd, Nat.reduceEqDiff, reduceIte, reduceCtorEq, Nat.reduceLeDiff, Nat.reduceLT, Nat.reduceSub, Int.reduceEq, Int.reduceLT, preH, OpK_alloc, ldCells, fillV, zeroN, zeroT, pcell, U0, P2, Z2_1, Z2_2, fld_t]
 refine DoesK_of (node_call 25 _ _ .full [] _ _ _) ?_
 rintro v st ⟨rfl, H3, C3, rfl, f3⟩
 have F3 : Fr h c H3 C3 [p] := by
  refine Fr.trans ?_ f3 (by simp)
  refine Fr.more (c1 := C2) ?_ (by omega)
  repeat (first | exact F2 | refine Fr.upd (c1 := C2) ?_ _ (by first | (right; omega) | (left; simp; done)) (Nat.le_refl _))
 have L3 := F3.le
 have M3 := f3.le
 have P3 : H3 p = _ := (f3.at (by omega) (by simp)).trans (by first | exact P2 | (simp only [U0, upd_same, P2]; rfl))
 have Z3_1 : H3 (c) = some (.cells zeroN) := (f3.at (by omega) (by simp)).trans (by first | (simp only [U0, upd_same, Z2_1]; done) | rfl | (simp only [U0, upd_same, Z2_1]; rfl))
 have Z3_2 : H3 (C1) = some (.cells zeroN) := (f3.at (by omega) (by simp)).trans (by first | (simp only [U0, upd_same, Z2_2]; done) | rfl | (simp only [U0, upd_same, Z2_2]; rfl))
 simp -dsimp -implicitDefEqProofs only [go_sem, Nat.reduceAdd, Nat.reduceEqDiff, reduceIte, reduceCtorEq, Nat.reduceLeDiff, Nat.reduceLT, Nat.reduceSub, Int.reduceEq, Int.reduceLT, preH, OpK_alloc, ldCells, fillV, zeroN, zeroT, pcell, U0, P3, Z3_1, Z3_2, Z3_2]
 obtain ⟨H0, hH0⟩ : ∃ x, x = upd H3 (C1) (.cells [.int .i64 25, .str (look T (wordS T 3 (takeS T s))).1.t, .int .i64 0, .int .i64 ((look T s).2 : Int), .slice .full [], .slice .full []]) := ⟨_, rfl⟩
 have P0 : H0 p = some (pcell o T (takeS T (wordS T 3 (takeS T s)))) := by rw [hH0, upd_ne _ _ (by omega)]; exact P3
 have Z0 : H0 c = some (.cells zeroN) := by rw [hH0, upd_ne _ _ (by omega)]; exact Z3_1
 have F0 : Fr h c H0 C3 [p] := by rw [hH0]; exact F3.upd _ (.inr (by omega)) (Nat.le_refl _)
 have Y0 : H0 (C1) = some (.cells [.int .i64 25, .str (look T (wordS T 3 (takeS T s))).1.t, .int .i64 0, .int .i64 ((look T s).2 : Int), .slice .full [], .slice .full []]) := by rw [hH0]; exact upd_same _ _ _
 have A0 : c < C1 ∧ C1 < C3 := ⟨by omega, by omega⟩
 rw [← hH0]
 clear hH0
 generalize C3 = C0 at F0 A0 ⊢
 generalize C1 = an at Y0 A0 ⊢
 replace Y0 : H0 an = some (.cells [.int .i64 (node 25 ((look T s).2 : Int) (look T (wordS T 3 (takeS T s))).1.t []).k, .str (node 25 ((look T s).2 : Int) (look T (wordS T 3 (takeS T s))).1.t []).t, .int .i64 (node 25 ((look T s).2 : Int) (look T (wordS T 3 (takeS T s))).1.t []).n, .int .i64 (node 25 ((look T s).2 : Int) (look T (wordS T 3 (takeS T s))).1.t []).a, .slice (oOf none) ((node 25 ((look T s).2 : Int) (look T (wordS T 3 (takeS T s))).1.t []).ns.map AV.str), .slice .full []]) := Y0
 have hnk0 : (node 25 ((look T s).2 : Int) (look T (wordS T 3 (takeS T s))).1.t []).ks = [] := rfl
 have hns0 : (node 25 ((look T s).2 : Int) (look T (wordS T 3 (takeS T s))).1.t []).ns = [] := rfl
 generalize node 25 ((look T s).2 : Int) (look T (wordS T 3 (takeS T s))).1.t [] = N0 at Y0 h1 hnk0 hns0 hnl hnk
 generalize takeS T (wordS T 3 (takeS T s)) = S0 at P0 h1 i1
 let I : Nat → AEnv → ASt → Prop := fun m e st => ∃ (nd : Nd) (sk : PS) (i : Option Nat) (H : Hp) (C : Nat), nd.ns.length + m ≤ f ∧ nd.ks = [] ∧ run T m (.namesLoop nd) sk = some (n1, s1) ∧ Inv T sk ∧ Fr h c H C [p] ∧ H p = some (pcell o T sk) ∧ H c = some (.cells zeroN) ∧
  H an = some (.cells [.int .i64 nd.k, .str nd.t, .int .i64 nd.n, .int .i64 nd.a, .slice (oOf i) (nd.ns.map AV.str), .slice .full []]) ∧ OwnG H 1 i (nd.ns.map AV.str) ∧ (∀ j, i = some j → an < j ∧ j < C) ∧ an < C ∧
  e.get 0 = .ptr p 0 ∧ e.get 2 = .ptr c 0 ∧ e.get 4 = .ptr an 0 ∧ st = ⟨H, C, []⟩
 refine LoopK_rule I f ⟨N0, S0, none, H0, C0, by rw [hns0]; simp, hnk0, h1, i1, F0, P0, Z0, Y0, by rw [hns0]; rfl, by simp, A0.2, rfl, rfl, rfl, rfl⟩ ?_
 rintro m e st ⟨nd, sk, i, H, C, hm, hks, hrk, Ik, HF, HP, Zc, Yn, HO, Hi, hC, g0, g2, g4, rfl⟩
 cases m with
 | zero => cases hrk
 | succ m =>
 rw [run_namesLoop] at hrk
 simp -dsimp -implicitDefEqProofs only [go_sem, Nat.reduceAdd, Nat.reduceEqDiff, reduceIte, reduceCtorEq, Nat.reduceLeDiff, Nat.reduceLT, Nat.reduceSub, Int.reduceEq, Int.reduceLT, g0]
 refine DoesK_of (look_call (s := sk) (o := o) (p := p) Ik HP (by omega)) ?_
 rintro v st ⟨rfl, H1, C1, rfl, f1, P1⟩
 have l1 := f1.le
 have F1 := HF.trans f1 (by simp)
 have Z1 : H1 c = some (.cells zeroN) := (f1.at (by omega) (by simp; omega)).trans Zc
 have Y1 := (f1.at hC (by simp; omega)).trans Yn
 have HO1 : OwnG H1 1 i (nd.ns.map AV.str) := HO.keep fun j hj => f1.at (Hi j hj).2 (by have := Hi j hj; simp; omega)
 have fk : fldV false 1 0 (tkV (look T sk)) = some (.int .i64 (look T sk).1.k) := rfl
 cases hk : decide ((look T sk).1.k = 3)
 case true =>
  have hk' : (look T sk).1.k = 3 := by simpa using hk
  rw [if_pos hk'] at hrk
  dsimp only at hrk
  simp -dsimp -implicitDefEqProofs only [go_sem, Nat.reduceAdd, Nat.reduceEqDiff, reduceIte, reduceCtorEq, Nat.reduceLeDiff, Nat.reduceLT, Nat.reduceSub, Int.reduceEq, Int.reduceLT, fk, hk, CondV_true, g0, g4, Y1, ldCells, List.length_map]
  refine DoesK_of (most_call (o := o) (p := p) Ik P1 (by omega) _ _) ?_
  rintro v st ⟨rfl, H2, C2, rfl, f2, P2⟩
  have l2 := f2.le
  have F2 := F1.trans f2 (by simp)
  have Z2 : H2 c = some (.cells zeroN) := (f2.at (by omega) (by simp; omega)).trans Z1
  have Y2 := (f2.at (show an < C1 by omega) (by simp; omega)).trans Y1
  have HO2 : OwnG H2 1 i (nd.ns.map AV.str) := HO1.keep fun j hj => f2.at (by have := Hi j hj; omega) (by have := Hi j hj; simp; omega)
  simp -dsimp -implicitDefEqProofs only [go_sem, Nat.reduceAdd, Nat.reduceEqDiff, reduceIte, reduceCtorEq, Nat.reduceLeDiff, Nat.reduceLT, Nat.reduceSub, Int.reduceEq, Int.reduceLT, Aw_region1, OpsK_some1, OpsK_none1, OpsK_guard1, maskOf, List.flatMap_cons, List.flatMap_nil, g0, g4, Y2, ldCells]
  refine DoesK_of (take_call (o := o) (p := p) (Ik.most _ _) P2 (by omega)) ?_
  intro v st hv
  obtain ⟨hv1, H3, C3, hst, f3, P3⟩ := hv
  subst hv1
  subst hst
  have l3 := f3.le
  have F3 := (F2.more (Nat.le_succ C2)).trans f3 (by simp)
  have Z3 : H3 c = some (.cells zeroN) := (f3.at (by omega) (by simp; omega)).trans Z2
  have Y3 := (f3.at (show an < C2 + 1 by omega) (by simp; omega)).trans Y2
  have HO3 : OwnG H3 1 i (nd.ns.map AV.str) := HO2.keep fun j hj => f3.at (by have := Hi j hj; omega) (by have := Hi j hj; simp; omega)
  generalize hw : (look T (mostS T (nd.ns.length : Nat) 4 sk)).1.t = w at hrk
  have happ := @appK_many C2 0 1 16 H3 C3 [] i (nd.ns.map AV.str) [.str w] .full HO3 rfl (by simp) (by simp; omega)
  rw [ownG_eq] at happ
  have hj : an < i.getD C2 ∧ i.getD C2 < C3 := by
   cases i with
   | none => exact ⟨by simp; omega, by simp; omega⟩
   | some j => have := Hi j rfl; exact ⟨this.1, by simp; omega⟩
  have hO4 : OwnG (upd H3 (i.getD C2) (.arr ((nd.ns.map AV.str).length + [AV.str w].length) 1)) 1 (some (i.getD C2)) (nd.ns.map AV.str ++ [.str w]) := OwnG.many
  simp only [Nat.add_zero] at happ
  generalize i.getD C2 = j at happ hj hO4
  have u : ∀ h x, upd h j x an = h an := fun h x => upd_ne h x (by omega)
  have ft : fldV false 1 1 (tkV (look T (mostS T (nd.ns.length : Nat) 4 sk))) = some (.str w) := by rw [fld_t, hw]
  simp -dsimp -implicitDefEqProofs only [go_sem, Nat.reduceAdd, Nat.reduceEqDiff, reduceIte, reduceCtorEq, Nat.reduceLeDiff, Nat.reduceLT, Nat.reduceSub, Int.reduceEq, Int.reduceLT, Aw_region1, OpsK_some1, OpsK_none1, OpsK_guard1, maskOf, List.flatMap_cons, List.flatMap_nil, Y3, g0, g2, g4, ldCells, partsV, ft, happ, u, ownG]
  simp only [List.contains_cons, List.contains_nil, Nat.reduceBEq, Bool.or_false, Bool.or_true, Bool.false_or, Bool.true_or, Bool.false_eq_true, if_true, if_false, opKey, ldKey, ev_tmp, get_cons, Nat.reduceEqDiff, reduceIte, Stable_cons, Stable_nil, List.forall_mem_cons, and_true, true_and]
  refine ⟨by simp [g4, Y2, Y3], ?_⟩
  obtain ⟨nk, nt, nn, na, nns, nks⟩ := nd
  refine Again.of m (by omega) ⟨(Nd.mk nk nt nn na nns nks).name w, takeS T (mostS T (nns.length : Nat) 4 sk), some j, _, _, by simp only [Nd.name, Nd.ns, List.length_append, List.length_cons, List.length_nil] at hm ⊢; omega, hks, hrk, (Ik.most _ _).take, (F3.upd _ (.inr (by omega)) (Nat.le_refl _)).upd _ (.inr (by omega)) (Nat.le_refl _), by rw [upd_ne _ _ (by omega), upd_ne _ _ (by omega)]; exact P3, by rw [upd_ne _ _ (by omega), upd_ne _ _ (by omega), Z3], ?_, ?_, ?_, by omega, g0, g2, g4, rfl⟩
  ·rw [upd_same]; simp only [Nd.name, Nd.k, Nd.t, Nd.n, Nd.a, Nd.ns, List.map_append, List.map_cons, List.map_nil]; rfl
  ·simp only [Nd.name, Nd.ns, List.map_append, List.map_cons, List.map_nil]
   exact OwnG.keep hO4 fun j' hj' => by cases hj'; exact upd_ne _ _ (by omega)
  ·intro j' hj'; cases hj'; exact ⟨hj.1, hj.2⟩
 case false =>
 have hk' : ¬ (look T sk).1.k = 3 := by simpa using hk
 rw [if_neg hk'] at hrk
 injection hrk with hrk; injection hrk with r1 r2
 subst r1; subst r2
 have L1 : Loc H1 C1 an nd := by
  obtain ⟨nk, nt, nn, na, nns, nks⟩ := nd
  have : nks = [] := hks
  subst this
  exact Loc.start (by omega) Y1
 simp -dsimp -implicitDefEqProofs only [go_sem, Nat.reduceAdd, Nat.reduceEqDiff, reduceIte, reduceCtorEq, Nat.reduceLeDiff, Nat.reduceLT, Nat.reduceSub, Int.reduceEq, Int.reduceLT, fk, hk, g0]
 refine DoesK_of (must_call (o := o) (p := p) Ik P1 (by omega) [61]) ?_
 rintro v st ⟨rfl, H2, C2, rfl, f2, P2⟩
 have L2 := L1.keep f2 (by simp; omega)
 have F2 := F1.trans f2 (by simp)
 have Z2 : H2 c = some (.cells zeroN) := (f2.at (by omega) (by simp; omega)).trans Z1
 simp -dsimp -implicitDefEqProofs only [go_sem, Nat.reduceAdd, Nat.reduceEqDiff, reduceIte, reduceCtorEq, Nat.reduceLeDiff, Nat.reduceLT, Nat.reduceSub, Int.reduceEq, Int.reduceLT]
 let J : Nat → AEnv → ASt → Prop := fun m e st => ∃ (nd : Nd) (more : Bool) (sk : PS) (H : Hp) (C : Nat), nd.ks.length + m ≤ f ∧ run T m (.consLoop nd more) sk = some (n, s') ∧ Inv T sk ∧ Fr h c H C [p] ∧ H p = some (pcell o T sk) ∧ H c = some (.cells zeroN) ∧ Loc H C an nd ∧
  e.get 0 = .ptr p 0 ∧ e.get 2 = .ptr c 0 ∧ e.get 4 = .ptr an 0 ∧ e.get 5 = .bool more ∧ st = ⟨H, C, []⟩
 refine LoopK_rule J f ⟨nd, true, _, H2, C2, by rw [hks]; simp, hr, Ik.must _, F2, P2, Z2, L2, g0, g2, g4, rfl, rfl⟩ ?_
 clear hr
 clear g0 g2 g4 Y1 Yn HO HO1 Hi HF HP Zc F1 Z1 f1 P1 hk hk' fk L1 f2 L2 F2 Z2 P2
 rintro m e st ⟨nd, more, sk, H, C, hm, hrk, Ik, HF, HP, Zc, HL, g0, g2, g4, g5, rfl⟩
 have hC := HL.lt
 cases m with
 | zero => cases hrk
 | succ m =>
 rw [run_consLoop] at hrk
 obtain ⟨o1, o2, es, hZ, hlen, hN⟩ := HL.nr
 cases hq : more && decide (sk.e = 0)
 ·rw [hq, if_neg (by simp)] at hrk
  injection hrk with hrk; injection hrk with r1 r2
  subst r1; subst r2
  have fin : Fr h c (upd H c (.cells [.int .i64 nd.k, .str nd.t, .int .i64 nd.n, .int .i64 nd.a, .slice o1 (nd.ns.map AV.str), .slice o2 es])) C [p] ∧ upd H c (.cells [.int .i64 nd.k, .str nd.t, .int .i64 nd.n, .int .i64 nd.a, .slice o1 (nd.ns.map AV.str), .slice o2 es]) p = some (pcell o T sk) := ⟨HF.upd _ (.inr (Nat.le_refl _)) (Nat.le_refl _), by rw [upd_ne _ _ (by omega)]; exact HP⟩
  cases more
  ·simp -dsimp -implicitDefEqProofs only [go_sem, Nat.reduceAdd, Nat.reduceEqDiff, reduceIte, reduceCtorEq, Nat.reduceLeDiff, Nat.reduceLT, Nat.reduceSub, Int.reduceEq, Int.reduceLT, g0, g2, g4, g5, hZ, Zc, zeroN, ldCells]
   exact ⟨hN, _, _, rfl, fin.1, fin.2⟩
  ·have he : decide (sk.e = 0) = false := by simpa using hq
   simp -dsimp -implicitDefEqProofs only [go_sem, Nat.reduceAdd, Nat.reduceEqDiff, reduceIte, reduceCtorEq, Nat.reduceLeDiff, Nat.reduceLT, Nat.reduceSub, Int.reduceEq, Int.reduceLT, g0, g2, g4, g5, hZ, Zc, zeroN, ldCells, HP, pcell, he]
   exact ⟨hN, _, _, rfl, fin.1, fin.2⟩
 ·rw [hq, if_pos rfl] at hrk
  simp only [Bool.and_eq_true] at hq
  obtain ⟨rfl, he⟩ := hq
  split at hrk
  case h_2 => cases hrk
  rename_i n2 s2 q2
  obtain ⟨⟨e1, J1⟩, e2⟩ := ha m (by omega) _ _ _ (Ik.most _ _) q2
  simp -dsimp -implicitDefEqProofs only [go_sem, Nat.reduceAdd, Nat.reduceEqDiff, reduceIte, reduceCtorEq, Nat.reduceLeDiff, Nat.reduceLT, Nat.reduceSub, Int.reduceEq, Int.reduceLT, g0, g2, g4, g5, hZ, hlen, ldCells, HP, pcell, he]
  refine DoesK_of (most_call (o := o) (p := p) Ik HP (by omega) _ _) ?_
  rintro v st ⟨rfl, H5, C5, rfl, f5, P5⟩
  have hL5 := HL.keep f5 (by simp; omega)
  have F5 := HF.trans f5 (by simp)
  have Z5 : H5 c = some (.cells zeroN) := (f5.at (by omega) (by simp; omega)).trans Zc
  simp -dsimp -implicitDefEqProofs only [go_sem, Nat.reduceAdd, Nat.reduceEqDiff, reduceIte, reduceCtorEq, Nat.reduceLeDiff, Nat.reduceLT, Nat.reduceSub, Int.reduceEq, Int.reduceLT]
  refine grow_region (nT := 4) (b := 48) (vs := []) (an := an) (h := h) (c := c) (nd := nd) (x := n2) (s := mostS T nd.ks.length 20 sk) (s' := s2) (o := o) (by simp only [get_cons, Nat.reduceEqDiff, reduceIte]; exact g0) (by simp only [get_cons, Nat.reduceEqDiff, reduceIte]; exact g4) (by omega) (by omega) F5 (by omega) hpc hL5 P5 (by omega) e2 (fun e6 H6 C6 he6 F6 hk6 P6 L6 hC6 => ?_)
  have G : ∀ t, t < 5 → e6.get t = e.get t := fun t ht => by
   rw [he6 t (by omega)]
   simp only [get_cons]
   repeat rw [if_neg (by omega)]
  have hC6' := L6.lt
  simp -dsimp -implicitDefEqProofs only [go_sem, Nat.reduceAdd, Nat.reduceEqDiff, reduceIte, reduceCtorEq, Nat.reduceLeDiff, Nat.reduceLT, Nat.reduceSub, Int.reduceEq, Int.reduceLT, (G 0 (by omega)).trans g0]
  refine DoesK_of (may_call (o := o) (p := p) J1 P6 (by omega) [124]) ?_
  rintro v st ⟨rfl, H7, C7, rfl, f7, P7⟩
  simp -dsimp -implicitDefEqProofs only [go_sem, Nat.reduceAdd, Nat.reduceEqDiff, reduceIte, reduceCtorEq, Nat.reduceLeDiff, Nat.reduceLT, Nat.reduceSub, Int.reduceEq, Int.reduceLT]
  have Gx : e6.get 0 = .ptr p 0 := (G 0 (by omega)).trans g0
  have Gy : e6.get 2 = .ptr c 0 := (G 2 (by omega)).trans g2
  have Gz : e6.get 4 = .ptr an 0 := (G 4 (by omega)).trans g4
  refine Again.of m (by omega) ⟨nd.add [n2], isW T [124] s2, mayS T [124] s2, H7, C7, by obtain ⟨_, _, _, _, _, _⟩ := nd; simp only [Nd.add, Nd.ks, List.length_append, List.length_cons, List.length_nil] at hm ⊢; omega, hrk, J1.may _, F6.trans f7 (by simp), P7, (f7.at (by omega) (by simp; omega)).trans ((hk6 c (by omega) (by omega)).trans Z5), L6.keep f7 (by simp; omega), by simp only [get_cons, Nat.reduceEqDiff, reduceIte]; exact Gx, by simp only [get_cons, Nat.reduceEqDiff, reduceIte]; exact Gy, by simp only [get_cons, Nat.reduceEqDiff, reduceIte]; exact Gz, rfl, rfl⟩
end
section
variable {T : List Tok} {p : Nat} {o : Own}
set_option maxHeartbeats 8000000 in
theorem decl_type {f : Nat} (ht : Reads T p o 48 (run T f .decltype)) {s s1 : PS} {n1 : Nd} (hi : Inv T s) (hw : isW T wType s = true) (h1 : run T f .decltype s = some (n1, s1)) :
  ∀ h c d, h p = some (pcell o T s) → p < c → Does X 32 [.ptr p 0] ⟨h, c, d⟩ (NK p o T h c d n1 (mustS T [59] s1)) := by
 intro h c d hp hpc
 obtain ⟨⟨d1, I1⟩, c1⟩ := ht _ _ _ hi h1
 refine call_aw b32 rfl rfl rfl ?_; delta b32
 have u1_0 : ∀ h x, upd h (c) x (p) = h (p) := fun h x => upd_ne h x (by omega)
 have u0_1 : ∀ h x, upd h (p) x (c) = h (c) := fun h x => upd_ne h x (by omega)
 have u2_0 : ∀ h x, upd h (c + 1) x (p) = h (p) := fun h x => upd_ne h x (by omega)
 have u0_2 : ∀ h x, upd h (p) x (c + 1) = h (c + 1) := fun h x => upd_ne h x (by omega)
 have u2_1 : ∀ h x, upd h (c + 1) x (c) = h (c) := fun h x => upd_ne h x (by omega)
 have u1_2 : ∀ h x, upd h (c) x (c + 1) = h (c + 1) := fun h x => upd_ne h x (by omega)
 have U0 : _ ∧ _ ∧ _ ∧ _ ∧ _ ∧ _ := ⟨u0_1, u0_2, u1_0, u1_2, u2_0, u2_1⟩
 simp -dsimp -implicitDefEqProofs only [go_sem, Nat.reduceAdd, Nat.reduceEqDiff, reduceIte, reduceCtorEq, Nat.reduceLeDiff, Nat.reduceLT, Nat.reduceSub, Int.reduceEq, Int.reduceLT, preH, OpK_alloc, ldCells, fillV, zeroN, zeroT, pcell, U0, hp]
 refine DoesK_of (isw_call (o := o) (p := p) hi (by first | exact hp | (simp only [U0, upd_same, hp]; done) | (simp only [U0, upd_same, hp]; rfl) | rfl) (by omega) wType) ?_
 rintro v st ⟨rfl, H1, C1, rfl, f1, P1⟩
 have F1 : Fr h c H1 C1 [p] := by
  refine Fr.trans ?_ f1 (by simp)
  refine Fr.more (c1 := c) ?_ (by omega)
  repeat (first | exact (Fr.refl h c [p]) | refine Fr.upd (c1 := c) ?_ _ (by first | (right; omega) | (left; simp; done)) (Nat.le_refl _))
 have L1 := F1.le
 have M1 := f1.le
 have Z1_1 : H1 (c) = some (.cells zeroN) := (f1.at (by omega) (by simp; omega)).trans (by first | (simp only [U0, upd_same]; done) | rfl | (simp only [U0, upd_same]; rfl))
 have Z1_2 : H1 (c + 1) = some (.cells zeroN) := (f1.at (by omega) (by simp; omega)).trans (by first | (simp only [U0, upd_same]; done) | rfl | (simp only [U0, upd_same]; rfl))
 simp -dsimp -implicitDefEqProofs only [go_sem, Nat.reduceAdd, Nat.reduceEqDiff, reduceIte, reduceCtorEq, Nat.reduceLeDiff, Nat.reduceLT, Nat.reduceSub, Int.reduceEq, Int.reduceLT, preH, OpK_alloc, ldCells, fillV, zeroN, zeroT, pcell, U0, P1, Z1_1, Z1_2, hw]
 refine DoesK_of (c1 _ _ _ (by first | exact P1 | (simp only [U0, upd_same, P1]; done) | (simp only [U0, upd_same, P1]; rfl) | rfl) (by omega)) ?_
 rintro v st ⟨N2, H2, C2, rfl, f2, P2⟩
 have F2 : Fr h c H2 C2 [p] := by
  refine Fr.trans ?_ f2 (by simp)
  refine Fr.more (c1 := C1) ?_ (by omega)
  repeat (first | exact F1 | refine Fr.upd (c1 := C1) ?_ _ (by first | (right; omega) | (left; simp; done)) (Nat.le_refl _))
 have L2 := F2.le
 have M2 := f2.le
 have Z2_1 : H2 (c) = some (.cells zeroN) := (f2.at (by omega) (by simp; omega)).trans (by first | (simp only [U0, upd_same, Z1_1]; done) | rfl | (simp only [U0, upd_same, Z1_1]; rfl))
 have Z2_2 : H2 (c + 1) = some (.cells zeroN) := (f2.at (by omega) (by simp; omega)).trans (by first | (simp only [U0, upd_same, Z1_2]; done) | rfl | (simp only [U0, upd_same, Z1_2]; rfl))
 obtain ⟨o2a, o2b, es2, rfl, E2⟩ := N2.inv
 simp -dsimp -implicitDefEqProofs only [go_sem, Nat.reduceAdd, Nat.reduceEqDiff, reduceIte, reduceCtorEq, Nat.reduceLeDiff, Nat.reduceLT, Nat.reduceSub, Int.reduceEq, Int.reduceLT, preH, OpK_alloc, ldCells, fillV, zeroN, zeroT, pcell, U0, P2, Z2_1, Z2_2]
 refine DoesK_of (must_call (o := o) (p := p) I1 (by first | exact P2 | (simp only [U0, upd_same, P2]; done) | (simp only [U0, upd_same, P2]; rfl) | rfl) (by omega) [59]) ?_
 rintro v st ⟨rfl, H3, C3, rfl, f3, P3⟩
 have F3 : Fr h c H3 C3 [p] := by
  refine Fr.trans ?_ f3 (by simp)
  refine Fr.more (c1 := C2) ?_ (by omega)
  repeat (first | exact F2 | refine Fr.upd (c1 := C2) ?_ _ (by first | (right; omega) | (left; simp; done)) (Nat.le_refl _))
 have L3 := F3.le
 have M3 := f3.le
 have Z3_1 : H3 (c) = some (.cells zeroN) := (f3.at (by omega) (by simp; omega)).trans (by first | (simp only [U0, upd_same, Z2_1]; done) | rfl | (simp only [U0, upd_same, Z2_1]; rfl))
 have Z3_2 : H3 (c + 1) = some (.cells [.int .i64 n1.k, .str n1.t, .int .i64 n1.n, .int .i64 n1.a, .slice o2a (n1.ns.map AV.str), .slice o2b es2]) := (f3.at (by omega) (by simp; omega)).trans (by first | (simp only [U0, upd_same]; done) | rfl | (simp only [U0, upd_same]; rfl))
 simp -dsimp -implicitDefEqProofs only [go_sem, Nat.reduceAdd, Nat.reduceEqDiff, reduceIte, reduceCtorEq, Nat.reduceLeDiff, Nat.reduceLT, Nat.reduceSub, Int.reduceEq, Int.reduceLT, preH, OpK_alloc, ldCells, fillV, zeroN, zeroT, pcell, U0, P3, Z3_1, Z3_2]
 exact ⟨N2, _, _, rfl, (by
   refine Fr.more (c1 := C3) ?_ (by omega)
   repeat (first | exact F3 | refine Fr.upd (c1 := C3) ?_ _ (by first | (right; omega) | (left; simp; done)) (Nat.le_refl _))), (by first | exact P3 | (simp only [U0, upd_same, P3]; done) | (simp only [U0, upd_same, P3]; rfl) | rfl)⟩
set_option maxHeartbeats 8000000 in
theorem decl_val {f : Nat} (he : Reads T p o 35 (run T f .exp)) {s s1 : PS} {name : List UInt8} {rc : Bool} {n1 : Nd} (hi : Inv T s) (hw : isW T wType s = false) (h1 : valueR T (run T f .exp) { takeS T s with flat := true } = some ((name, rc, n1), s1)) :
  ∀ h c d, h p = some (pcell o T s) → p < c → Does X 32 [.ptr p 0] ⟨h, c, d⟩ (NK p o T h c d (node (if rc then 29 else 28) (look T s).2 name [n1]) (mustS T [59] { s1 with flat := false })) := by
 intro h c d hp hpc
 have i0 : Inv T { takeS T s with flat := true } := hi.take.same rfl rfl
 obtain ⟨⟨d1, I1⟩, c1⟩ := value_reads he i0 h1
 have i1 : Inv T { s1 with flat := false } := I1.same rfl rfl
 refine call_aw b32 rfl rfl rfl ?_; delta b32
 have u1_0 : ∀ h x, upd h (c) x (p) = h (p) := fun h x => upd_ne h x (by omega)
 have u0_1 : ∀ h x, upd h (p) x (c) = h (c) := fun h x => upd_ne h x (by omega)
 have u2_0 : ∀ h x, upd h (c + 1) x (p) = h (p) := fun h x => upd_ne h x (by omega)
 have u0_2 : ∀ h x, upd h (p) x (c + 1) = h (c + 1) := fun h x => upd_ne h x (by omega)
 have u2_1 : ∀ h x, upd h (c + 1) x (c) = h (c) := fun h x => upd_ne h x (by omega)
 have u1_2 : ∀ h x, upd h (c) x (c + 1) = h (c + 1) := fun h x => upd_ne h x (by omega)
 have U1 : _ ∧ _ ∧ _ ∧ _ ∧ _ ∧ _ := ⟨u0_1, u0_2, u1_0, u1_2, u2_0, u2_1⟩
 simp -dsimp -implicitDefEqProofs only [go_sem, Nat.reduceAdd, Nat.reduceEqDiff, reduceIte, reduceCtorEq, Nat.reduceLeDiff, Nat.reduceLT, Nat.reduceSub, Int.reduceEq, Int.reduceLT, preH, OpK_alloc, ldCells, fillV, zeroN, zeroT, pcell, U1, hp]
 refine DoesK_of (isw_call (o := o) (p := p) hi (by first | exact hp | (simp only [U1, upd_same, hp]; done) | (simp only [U1, upd_same, hp]; rfl) | rfl) (by omega) wType) ?_
 rintro v st ⟨rfl, H1, C1, rfl, f1, P1⟩
 have F1 : Fr h c H1 C1 [p] := by
  refine Fr.trans ?_ f1 (by simp)
  refine Fr.more (c1 := c) ?_ (by omega)
  repeat (first | exact (Fr.refl h c [p]) | refine Fr.upd (c1 := c) ?_ _ (by first | (right; omega) | (left; simp; done)) (Nat.le_refl _))
 have L1 := F1.le
 have M1 := f1.le
 have Z1_1 : H1 (c) = some (.cells zeroN) := (f1.at (by omega) (by simp; omega)).trans (by first | (simp only [U1, upd_same]; done) | rfl | (simp only [U1, upd_same]; rfl))
 have Z1_2 : H1 (c + 1) = some (.cells zeroN) := (f1.at (by omega) (by simp; omega)).trans (by first | (simp only [U1, upd_same]; done) | rfl | (simp only [U1, upd_same]; rfl))
 simp -dsimp -implicitDefEqProofs only [go_sem, Nat.reduceAdd, Nat.reduceEqDiff, reduceIte, reduceCtorEq, Nat.reduceLeDiff, Nat.reduceLT, Nat.reduceSub, Int.reduceEq, Int.reduceLT, preH, OpK_alloc, ldCells, fillV, zeroN, zeroT, pcell, U1, P1, Z1_1, Z1_2, hw]
 refine DoesK_of (take_call (o := o) (p := p) hi (by first | exact P1 | (simp only [U1, upd_same, P1]; done) | (simp only [U1, upd_same, P1]; rfl) | rfl) (by omega)) ?_
 rintro v st ⟨rfl, H2, C2, rfl, f2, P2⟩
 have F2 : Fr h c H2 C2 [p] := by
  refine Fr.trans ?_ f2 (by simp)
  refine Fr.more (c1 := C1) ?_ (by omega)
  repeat (first | exact F1 | refine Fr.upd (c1 := C1) ?_ _ (by first | (right; omega) | (left; simp; done)) (Nat.le_refl _))
 have L2 := F2.le
 have M2 := f2.le
 have Z2_1 : H2 (c) = some (.cells zeroN) := (f2.at (by omega) (by simp; omega)).trans (by first | (simp only [U1, upd_same, Z1_1]; done) | rfl | (simp only [U1, upd_same, Z1_1]; rfl))
 have Z2_2 : H2 (c + 1) = some (.cells zeroN) := (f2.at (by omega) (by simp; omega)).trans (by first | (simp only [U1, upd_same, Z1_2]; done) | rfl | (simp only [U1, upd_same, Z1_2]; rfl))
 have u3_0 : ∀ h x, upd h (C2) x (p) = h (p) := fun h x => upd_ne h x (by omega)
 have u0_3 : ∀ h x, upd h (p) x (C2) = h (C2) := fun h x => upd_ne h x (by omega)
 have u3_1 : ∀ h x, upd h (C2) x (c) = h (c) := fun h x => upd_ne h x (by omega)
 have u1_3 : ∀ h x, upd h (c) x (C2) = h (C2) := fun h x => upd_ne h x (by omega)
 have u3_2 : ∀ h x, upd h (C2) x (c + 1) = h (c + 1) := fun h x => upd_ne h x (by omega)
 have u2_3 : ∀ h x, upd h (c + 1) x (C2) = h (C2) := fun h x => upd_ne h x (by omega)
 have U2 : _ ∧ _ ∧ _ ∧ _ ∧ _ ∧ _ ∧ _ ∧ _ ∧ _ ∧ _ ∧ _ ∧ _ := ⟨u0_1, u0_2, u0_3, u1_0, u1_2, u1_3, u2_0, u2_1, u2_3, u3_0, u3_1, u3_2⟩
 simp -dsimp -implicitDefEqProofs only [go_sem, Nat.reduceAdd, Nat.reduceEqDiff, reduceIte, reduceCtorEq, Nat.reduceLeDiff, Nat.reduceLT, Nat.reduceSub, Int.reduceEq, Int.reduceLT, preH, OpK_alloc, ldCells, fillV, zeroN, zeroT, pcell, U2, P2, Z2_1, Z2_2, fld_a]
 have Q2 : upd (upd H2 p (pcell o T { takeS T s with flat := true })) (C2) (.cells zeroN) p = some (pcell o T { takeS T s with flat := true }) := by rw [upd_ne _ _ (by omega), upd_same]
 refine DoesK_of (c1 _ _ _ (by first | exact Q2 | (simp only [U2, upd_same, Q2]; done) | (simp only [U2, upd_same, Q2]; rfl) | rfl) (by omega)) ?_
 rintro v st ⟨v3, rfl, N3, H3, C3, rfl, f3, P3⟩
 have F3 : Fr h c H3 C3 [p] := by
  refine Fr.trans ?_ f3 (by simp)
  refine Fr.more (c1 := C2) ?_ (by omega)
  repeat (first | exact F2 | refine Fr.upd (c1 := C2) ?_ _ (by first | (right; omega) | (left; simp; done)) (Nat.le_refl _))
 have L3 := F3.le
 have M3 := f3.le
 have Z3_1 : H3 (c) = some (.cells zeroN) := (f3.at (by omega) (by simp; omega)).trans (by first | (simp only [U2, upd_same, Z2_1]; done) | rfl | (simp only [U2, upd_same, Z2_1]; rfl))
 have Z3_2 : H3 (c + 1) = some (.cells zeroN) := (f3.at (by omega) (by simp; omega)).trans (by first | (simp only [U2, upd_same, Z2_2]; done) | rfl | (simp only [U2, upd_same, Z2_2]; rfl))
 have Z3_3 : H3 (C2) = some (.cells zeroN) := (f3.at (by omega) (by simp; omega)).trans (by first | (simp only [U2, upd_same]; done) | rfl | (simp only [U2, upd_same]; rfl))
 obtain ⟨o3a, o3b, es3, rfl, E3⟩ := N3.inv
 simp -dsimp -implicitDefEqProofs only [go_sem, Nat.reduceAdd, Nat.reduceEqDiff, reduceIte, reduceCtorEq, Nat.reduceLeDiff, Nat.reduceLT, Nat.reduceSub, Int.reduceEq, Int.reduceLT, preH, OpK_alloc, ldCells, fillV, zeroN, zeroT, pcell, U2, P3, Z3_1, Z3_2, Z3_3, partsV]
 refine DoesK_of (node_call 28 _ _ .full _ _ _ _) ?_
 rintro v st ⟨rfl, H4, C4, rfl, f4⟩
 have F4 : Fr h c H4 C4 [p] := by
  refine Fr.trans ?_ f4 (by simp)
  refine Fr.more (c1 := C3) ?_ (by omega)
  repeat (first | exact F3 | refine Fr.upd (c1 := C3) ?_ _ (by first | (right; omega) | (left; simp; done)) (Nat.le_refl _))
 have L4 := F4.le
 have M4 := f4.le
 have P4 : H4 p = _ := (f4.at (by omega) (by simp)).trans (by first | exact P3 | (simp only [U2, upd_same, P3]; rfl))
 have Z4_1 : H4 (c) = some (.cells zeroN) := (f4.at (by omega) (by simp)).trans (by first | (simp only [U2, upd_same, Z3_1]; done) | rfl | (simp only [U2, upd_same, Z3_1]; rfl))
 have Z4_2 : H4 (c + 1) = some (.cells zeroN) := (f4.at (by omega) (by simp)).trans (by first | (simp only [U2, upd_same, Z3_2]; done) | rfl | (simp only [U2, upd_same, Z3_2]; rfl))
 have Z4_3 : H4 (C2) = some (.cells [.int .i64 n1.k, .str n1.t, .int .i64 n1.n, .int .i64 n1.a, .slice o3a (n1.ns.map AV.str), .slice o3b es3]) := (f4.at (by omega) (by simp)).trans (by first | (simp only [U2, upd_same]; done) | rfl | (simp only [U2, upd_same]; rfl))
 cases rc
 ·simp -dsimp -implicitDefEqProofs only [go_sem, Nat.reduceAdd, Nat.reduceEqDiff, reduceIte, reduceCtorEq, Nat.reduceLeDiff, Nat.reduceLT, Nat.reduceSub, Int.reduceEq, Int.reduceLT, preH, OpK_alloc, ldCells, fillV, zeroN, zeroT, pcell, U2, P4, Z4_1, Z4_2, Z4_3, Z4_2]
  refine DoesK_of (must_call (o := o) (p := p) i1 (by first | exact P4 | (simp only [U2, upd_same, P4]; done) | (simp only [U2, upd_same, P4]; rfl) | rfl) (by omega) [59]) ?_
  rintro v st ⟨rfl, H5, C5, rfl, f5, P5⟩
  have F5 : Fr h c H5 C5 [p] := by
   refine Fr.trans ?_ f5 (by simp)
   refine Fr.more (c1 := C4) ?_ (by omega)
   repeat (first | exact F4 | refine Fr.upd (c1 := C4) ?_ _ (by first | (right; omega) | (left; simp; done)) (Nat.le_refl _))
  have L5 := F5.le
  have M5 := f5.le
  have Z5_1 : H5 (c) = some (.cells zeroN) := (f5.at (by omega) (by simp; omega)).trans (by first | (simp only [U2, upd_same, Z4_1]; done) | rfl | (simp only [U2, upd_same, Z4_1]; rfl))
  have Z5_2 : H5 (c + 1) = some (.cells [.int .i64 28, .str name, .int .i64 0, .int .i64 ((look T s).2 : Int), .slice .full [], .slice .full [.agg [.int .i64 n1.k, .str n1.t, .int .i64 n1.n, .int .i64 n1.a, .slice o3a (n1.ns.map AV.str), .slice o3b es3]]]) := (f5.at (by omega) (by simp; omega)).trans (by first | (simp only [U2, upd_same]; done) | rfl | (simp only [U2, upd_same]; rfl))
  have Z5_3 : H5 (C2) = some (.cells [.int .i64 n1.k, .str n1.t, .int .i64 n1.n, .int .i64 n1.a, .slice o3a (n1.ns.map AV.str), .slice o3b es3]) := (f5.at (by omega) (by simp; omega)).trans (by first | (simp only [U2, upd_same, Z4_3]; done) | rfl | (simp only [U2, upd_same, Z4_3]; rfl))
  simp -dsimp -implicitDefEqProofs only [go_sem, Nat.reduceAdd, Nat.reduceEqDiff, reduceIte, reduceCtorEq, Nat.reduceLeDiff, Nat.reduceLT, Nat.reduceSub, Int.reduceEq, Int.reduceLT, preH, OpK_alloc, ldCells, fillV, zeroN, zeroT, pcell, U2, P5, Z5_1, Z5_2, Z5_3]
  exact ⟨.mk rfl (NRs.one N3).2, _, _, rfl, (by
    refine Fr.more (c1 := C5) ?_ (by omega)
    repeat (first | exact F5 | refine Fr.upd (c1 := C5) ?_ _ (by first | (right; omega) | (left; simp; done)) (Nat.le_refl _))), (by first | exact P5 | (simp only [U2, upd_same, P5]; done) | (simp only [U2, upd_same, P5]; rfl) | rfl)⟩
 ·simp -dsimp -implicitDefEqProofs only [go_sem, Nat.reduceAdd, Nat.reduceEqDiff, reduceIte, reduceCtorEq, Nat.reduceLeDiff, Nat.reduceLT, Nat.reduceSub, Int.reduceEq, Int.reduceLT, preH, OpK_alloc, ldCells, fillV, zeroN, zeroT, pcell, U2, P4, Z4_1, Z4_2, Z4_3, Z4_2]
  refine DoesK_of (must_call (o := o) (p := p) i1 (by first | exact P4 | (simp only [U2, upd_same, P4]; done) | (simp only [U2, upd_same, P4]; rfl) | rfl) (by omega) [59]) ?_
  rintro v st ⟨rfl, H5, C5, rfl, f5, P5⟩
  have F5 : Fr h c H5 C5 [p] := by
   refine Fr.trans ?_ f5 (by simp)
   refine Fr.more (c1 := C4) ?_ (by omega)
   repeat (first | exact F4 | refine Fr.upd (c1 := C4) ?_ _ (by first | (right; omega) | (left; simp; done)) (Nat.le_refl _))
  have L5 := F5.le
  have M5 := f5.le
  have Z5_1 : H5 (c) = some (.cells zeroN) := (f5.at (by omega) (by simp; omega)).trans (by first | (simp only [U2, upd_same, Z4_1]; done) | rfl | (simp only [U2, upd_same, Z4_1]; rfl))
  have Z5_2 : H5 (c + 1) = some (.cells [.int .i64 29, .str name, .int .i64 0, .int .i64 ((look T s).2 : Int), .slice .full [], .slice .full [.agg [.int .i64 n1.k, .str n1.t, .int .i64 n1.n, .int .i64 n1.a, .slice o3a (n1.ns.map AV.str), .slice o3b es3]]]) := (f5.at (by omega) (by simp; omega)).trans (by first | (simp only [U2, upd_same]; done) | rfl | (simp only [U2, upd_same]; rfl))
  have Z5_3 : H5 (C2) = some (.cells [.int .i64 n1.k, .str n1.t, .int .i64 n1.n, .int .i64 n1.a, .slice o3a (n1.ns.map AV.str), .slice o3b es3]) := (f5.at (by omega) (by simp; omega)).trans (by first | (simp only [U2, upd_same, Z4_3]; done) | rfl | (simp only [U2, upd_same, Z4_3]; rfl))
  simp -dsimp -implicitDefEqProofs only [go_sem, Nat.reduceAdd, Nat.reduceEqDiff, reduceIte, reduceCtorEq, Nat.reduceLeDiff, Nat.reduceLT, Nat.reduceSub, Int.reduceEq, Int.reduceLT, preH, OpK_alloc, ldCells, fillV, zeroN, zeroT, pcell, U2, P5, Z5_1, Z5_2, Z5_3]
  exact ⟨.mk rfl (NRs.one N3).2, _, _, rfl, (by
    refine Fr.more (c1 := C5) ?_ (by omega)
    repeat (first | exact F5 | refine Fr.upd (c1 := C5) ?_ _ (by first | (right; omega) | (left; simp; done)) (Nat.le_refl _))), (by first | exact P5 | (simp only [U2, upd_same, P5]; done) | (simp only [U2, upd_same, P5]; rfl) | rfl)⟩
end
section
variable {T : List Tok} {p : Nat} {o : Own}
theorem decl_reads {f : Nat} (ht : Reads T p o 48 (run T f .decltype)) (he : Reads T p o 35 (run T f .exp)) : Reads T p o 32 (run T (f + 1) .decl) := by
 intro s n s' hi hr
 rw [run_decl] at hr
 cases hw : isW T wType s
 ·rw [hw, if_neg (by simp)] at hr
  dsimp only at hr
  split at hr
  case h_2 => cases hr
  rename_i name rc n1 s1 h1
  injection hr with hr; injection hr with r1 r2
  subst r1; subst r2
  have i0 : Inv T { takeS T s with flat := true } := hi.take.same rfl rfl
  obtain ⟨⟨d1, I1⟩, c1⟩ := value_reads he i0 h1
  have i1 : Inv T { s1 with flat := false } := I1.same rfl rfl
  refine ⟨⟨by rw [must_deep]; simp only; rw [d1]; exact take_deep _, i1.must _⟩, fun h c d hp hpc => ?_⟩
  have := decl_val he hi hw h1 h c d hp hpc
  cases rc <;> exact this
 ·rw [hw, if_pos rfl] at hr
  split at hr
  case h_2 => cases hr
  rename_i n1 s1 h1
  injection hr with hr; injection hr with r1 r2
  subst r1; subst r2
  obtain ⟨⟨d1, I1⟩, c1⟩ := ht _ _ _ hi h1
  exact ⟨⟨by rw [must_deep, d1], I1.must _⟩, decl_type ht hi hw h1⟩
/-- What is asked at the loop's head. -/
def dcond : ACode := (.seq (.region 0 [] [⟨(some 8), none, (.move (.tmp 0))⟩, ⟨(some 9), none, (.call (.val (.func 30 [] [])) [(.tmp 8), (.val (.str [116, 121, 112, 101]))])⟩, ⟨(some 10), none, (.move (.tmp 9))⟩, ⟨(some 11), (some (10, false)), (.move (.tmp 0))⟩, ⟨(some 12), (some (10, false)), (.call (.val (.func 30 [] [])) [(.tmp 11), (.val (.str [108, 101, 116]))])⟩, ⟨(some 13), none, (.pick (.tmp 10) (.val (.bool true)) (.tmp 12))⟩] []) (.cond (.tmp 13) .skip (.exit 0)))
set_option maxHeartbeats 4000000 in
theorem declCond {K : AExit → AEnv → ASt → Prop} {vK : Veil K} {v : Veil dcond} {e : AEnv} {H : Hp} {C : Nat} {d : List (Nat × List AV)} {s : PS} (hi : Inv T s) (h0 : e.get 0 = .ptr p 0) (hP : H p = some (pcell o T s)) (hpC : p < C)
  (hT : (isW T wType s || isW T wLet s) = true → ∀ e' H' C', (∀ t, t < 8 → e'.get t = e.get t) → Fr H C H' C' [p] → H' p = some (pcell o T s) → K .normal e' ⟨H', C', d⟩)
  (hF : (isW T wType s || isW T wLet s) = false → ∀ e' H' C', (∀ t, t < 8 → e'.get t = e.get t) → Fr H C H' C' [p] → H' p = some (pcell o T s) → K (.exit 0) e' ⟨H', C', d⟩) : Aw X dcond K v vK e ⟨H, C, d⟩ := by
 cases v
 delta dcond
 simp -dsimp -implicitDefEqProofs only [go_sem, Nat.reduceAdd, Nat.reduceEqDiff, reduceIte, reduceCtorEq, Nat.reduceLeDiff, Nat.reduceLT, Nat.reduceSub, Int.reduceEq, Int.reduceLT, h0]
 refine DoesK_of (isw_call hi hP hpC wType) ?_
 rintro v st ⟨rfl, H1, C1, rfl, f1, P1⟩
 have l1 := f1.le
 cases g1 : isW T wType s
 case true =>
  simp -dsimp -implicitDefEqProofs only [go_sem, Nat.reduceAdd, Nat.reduceEqDiff, reduceIte, reduceCtorEq, Nat.reduceLeDiff, Nat.reduceLT, Nat.reduceSub, Int.reduceEq, Int.reduceLT, h0]
  refine hT (by rw [g1]; rfl) _ _ _ (fun t ht => ?_) f1 P1
  simp only [get_cons]
  repeat rw [if_neg (by omega)]
 simp -dsimp -implicitDefEqProofs only [go_sem, Nat.reduceAdd, Nat.reduceEqDiff, reduceIte, reduceCtorEq, Nat.reduceLeDiff, Nat.reduceLT, Nat.reduceSub, Int.reduceEq, Int.reduceLT, h0]
 refine DoesK_of (isw_call hi P1 (by omega) wLet) ?_
 rintro v st ⟨rfl, H2, C2, rfl, f2, P2⟩
 replace f2 := f1.trans f2 (by simp)
 cases g2 : isW T wLet s
 case true =>
  simp -dsimp -implicitDefEqProofs only [go_sem, Nat.reduceAdd, Nat.reduceEqDiff, reduceIte, reduceCtorEq, Nat.reduceLeDiff, Nat.reduceLT, Nat.reduceSub, Int.reduceEq, Int.reduceLT, h0]
  refine hT (by rw [g1, g2]; rfl) _ _ _ (fun t ht => ?_) f2 P2
  simp only [get_cons]
  repeat rw [if_neg (by omega)]
 case false =>
  simp -dsimp -implicitDefEqProofs only [go_sem, Nat.reduceAdd, Nat.reduceEqDiff, reduceIte, reduceCtorEq, Nat.reduceLeDiff, Nat.reduceLT, Nat.reduceSub, Int.reduceEq, Int.reduceLT, h0]
  refine hF (by rw [g1, g2]; rfl) _ _ _ (fun t ht => ?_) f2 P2
  simp only [get_cons]
  repeat rw [if_neg (by omega)]
theorem declLoop_inv {f : Nat} (ha : ∀ m, m ≤ f → Reads T p o 32 (run T m .decl)) : ∀ (q : Nat) (nd : Nd) (s : PS) (n : Nd) (s' : PS), q ≤ f → Inv T s → run T q (.declLoop nd) s = some (n, s') → (s'.deep = s.deep ∧ Inv T s') ∧ n.ks.length ≤ nd.ks.length + q := by
 intro q
 induction q with
 | zero => intro nd s n s' hq hi hr; cases hr
 | succ q ih =>
  intro nd s n s' hq hi hr
  rw [run_declLoop] at hr
  split at hr
  ·split at hr
   case h_2 => cases hr
   rename_i n1 s1 g1
   obtain ⟨⟨d1, I1⟩, _⟩ := ha q (by omega) _ _ _ (hi.most _ _) g1
   obtain ⟨⟨d3, I3⟩, l3⟩ := ih _ _ _ _ (by omega) I1 hr
   refine ⟨⟨by rw [d3, d1, most_deep], I3⟩, ?_⟩
   obtain ⟨_, _, _, _, _, _⟩ := nd; simp only [Nd.add, Nd.ks, List.length_append, List.length_cons, List.length_nil] at l3 ⊢; omega
  ·injection hr with hr; injection hr with r1 r2
   subst r2; subst r1; exact ⟨⟨rfl, hi⟩, by omega⟩
set_option maxHeartbeats 8000000 in
theorem program_reads {f : Nat} (hf : f ≤ 1000000000) (ha : ∀ m, m ≤ f → Reads T p o 32 (run T m .decl)) (he : Reads T p o 35 (run T f .exp)) : Reads T p o 18 (run T (f + 1) .program) := by
 intro s n s' hi hr
 rw [run_program] at hr
 split at hr
 case h_2 => cases hr
 rename_i n1 s1 h1
 split at hr
 case h_2 => cases hr
 rename_i n2 s2 h2
 injection hr with hr; injection hr with r1 r2
 obtain ⟨⟨d1, I1⟩, hnl⟩ := declLoop_inv ha _ _ _ _ _ (Nat.le_refl _) hi h1
 obtain ⟨⟨d2, I2⟩, c2⟩ := in_reads he (I1.must wDo) h2
 have hR : s'.deep = s.deep ∧ Inv T s' := by
  subst r2
  split
  ·exact ⟨by rw [fail_deep, d2, must_deep, d1], I2.fail _⟩
  ·exact ⟨by rw [d2, must_deep, d1], I2⟩
 refine ⟨hR, fun h c d hp hpc => ?_⟩
 clear hR
 refine call_aw b18 rfl rfl rfl ?_; delta b18
 have u1_0 : ∀ h x, upd h (c) x (p) = h (p) := fun h x => upd_ne h x (by omega)
 have u0_1 : ∀ h x, upd h (p) x (c) = h (c) := fun h x => upd_ne h x (by omega)
 have u2_0 : ∀ h x, upd h (c + 1) x (p) = h (p) := fun h x => upd_ne h x (by omega)
 have u0_2 : ∀ h x, upd h (p) x (c + 1) = h (c + 1) := fun h x => upd_ne h x (by omega)
 have u2_1 : ∀ h x, upd h (c + 1) x (c) = h (c) := fun h x => upd_ne h x (by omega)
 have u1_2 : ∀ h x, upd h (c) x (c + 1) = h (c + 1) := fun h x => upd_ne h x (by omega)
 have U0 : _ ∧ _ ∧ _ ∧ _ ∧ _ ∧ _ := ⟨u0_1, u0_2, u1_0, u1_2, u2_0, u2_1⟩
 simp -dsimp -implicitDefEqProofs only [go_sem, Nat.reduceAdd, Nat.reduceEqDiff, reduceIte, reduceCtorEq, Nat.reduceLeDiff, Nat.reduceLT, Nat.reduceSub, Int.reduceEq, Int.reduceLT, preH, OpK_alloc, ldCells, fillV, zeroN, zeroT, pcell, U0, hp]
 refine DoesK_of (look_call (s := s) (o := o) (p := p) hi (by first | exact hp | (simp only [U0, upd_same, hp]; done) | (simp only [U0, upd_same, hp]; rfl) | rfl) (by omega)) ?_
 rintro v st ⟨rfl, H1, C1, rfl, f1, P1⟩
 have F1 : Fr h c H1 C1 [p] := by
  refine Fr.trans ?_ f1 (by simp)
  refine Fr.more (c1 := c) ?_ (by omega)
  repeat (first | exact (Fr.refl h c [p]) | refine Fr.upd (c1 := c) ?_ _ (by first | (right; omega) | (left; simp; done)) (Nat.le_refl _))
 have L1 := F1.le
 have M1 := f1.le
 have Z1_1 : H1 (c) = some (.cells zeroN) := (f1.at (by omega) (by simp; omega)).trans (by first | (simp only [U0, upd_same]; done) | rfl | (simp only [U0, upd_same]; rfl))
 have Z1_2 : H1 (c + 1) = some (.cells zeroN) := (f1.at (by omega) (by simp; omega)).trans (by first | (simp only [U0, upd_same]; done) | rfl | (simp only [U0, upd_same]; rfl))
 simp -dsimp -implicitDefEqProofs only [go_sem, Nat.reduceAdd, Nat.reduceEqDiff, reduceIte, reduceCtorEq, Nat.reduceLeDiff, Nat.reduceLT, Nat.reduceSub, Int.reduceEq, Int.reduceLT, preH, OpK_alloc, ldCells, fillV, zeroN, zeroT, pcell, U0, P1, Z1_1, Z1_2, fld_a]
 refine DoesK_of (node_call 30 _ _ .full [] _ _ _) ?_
 rintro v st ⟨rfl, H2, C2, rfl, f2⟩
 have F2 : Fr h c H2 C2 [p] := by
  refine Fr.trans ?_ f2 (by simp)
  refine Fr.more (c1 := C1) ?_ (by omega)
  repeat (first | exact F1 | refine Fr.upd (c1 := C1) ?_ _ (by first | (right; omega) | (left; simp; done)) (Nat.le_refl _))
 have L2 := F2.le
 have M2 := f2.le
 have P2 : H2 p = _ := (f2.at (by omega) (by simp)).trans (by first | exact P1 | (simp only [U0, upd_same, P1]; rfl))
 have Z2_1 : H2 (c) = some (.cells zeroN) := (f2.at (by omega) (by simp)).trans (by first | (simp only [U0, upd_same, Z1_1]; done) | rfl | (simp only [U0, upd_same, Z1_1]; rfl))
 have Z2_2 : H2 (c + 1) = some (.cells zeroN) := (f2.at (by omega) (by simp)).trans (by first | (simp only [U0, upd_same, Z1_2]; done) | rfl | (simp only [U0, upd_same, Z1_2]; rfl))
 simp -dsimp -implicitDefEqProofs only [go_sem, Nat.reduceAdd, Nat.reduceEqDiff, reduceIte, reduceCtorEq, Nat.reduceLeDiff, Nat.reduceLT, Nat.reduceSub, Int.reduceEq, Int.reduceLT, preH, OpK_alloc, ldCells, fillV, zeroN, zeroT, pcell, U0, P2, Z2_1, Z2_2, Z2_2]
 obtain ⟨H0, hH0⟩ : ∃ x, x = upd H2 (c + 1) (.cells [.int .i64 30, .str [], .int .i64 0, .int .i64 ((look T s).2 : Int), .slice .full [], .slice .full []]) := ⟨_, rfl⟩
 have P0 : H0 p = some (pcell o T s) := by rw [hH0, upd_ne _ _ (by omega)]; exact P2
 have Z0 : H0 c = some (.cells zeroN) := by rw [hH0, upd_ne _ _ (by omega)]; exact Z2_1
 have F0 : Fr h c H0 C2 [p] := by rw [hH0]; exact F2.upd _ (.inr (by omega)) (Nat.le_refl _)
 have L0 : Loc H0 C2 (c + 1) (node 30 (look T s).2 [] []) := Loc.start (by omega) (by rw [hH0]; exact upd_same _ _ _)
 have A0 : c < c + 1 := by omega
 rw [← hH0]
 clear hH0
 generalize C2 = C0 at L0 F0 ⊢
 generalize hAN : c + 1 = an at L0 A0 ⊢
 have hnl0 : (node 30 ((look T s).2 : Int) [] []).ks.length = 0 := rfl
 generalize node 30 ((look T s).2 : Int) [] [] = N0 at L0 h1 hnl hnl0
 let I : Nat → AEnv → ASt → Prop := fun m e st => ∃ (nd : Nd) (sk : PS) (H : Hp) (C : Nat), nd.ks.length + m ≤ f ∧ run T m (.declLoop nd) sk = some (n1, s1) ∧ Inv T sk ∧ Fr h c H C [p] ∧ H p = some (pcell o T sk) ∧ H c = some (.cells zeroN) ∧ Loc H C an nd ∧
  e.get 0 = .ptr p 0 ∧ e.get 2 = .ptr c 0 ∧ e.get 3 = .ptr an 0 ∧ st = ⟨H, C, []⟩
 refine LoopK_rule I f ⟨N0, s, H0, C0, by omega, h1, hi, F0, P0, Z0, L0, rfl, rfl, rfl, rfl⟩ ?_
 rintro m e st ⟨nd, sk, H, C, hm, hrk, Ik, HF, HP, Zc, HL, g0, g2, g3, rfl⟩
 have hC := HL.lt
 cases m with
 | zero => cases hrk
 | succ m =>
 rw [run_declLoop] at hrk
 rw [Aw_seq]
 refine declCond Ik g0 HP (by omega) (fun hq e' H' C' he' hf4 hP4 => ?_) (fun hq e' H' C' he' hf4 hP4 => ?_)
 ·rw [if_pos hq] at hrk
  split at hrk
  case h_2 => cases hrk
  rename_i n3 s3 q2
  obtain ⟨⟨e1, J1⟩, e2⟩ := ha m (by omega) _ _ _ (Ik.most _ _) q2
  have g0' := (he' 0 (by omega)).trans g0
  have g3' := (he' 3 (by omega)).trans g3
  have hL4 := HL.keep hf4 (by simp; omega)
  have hC4 := hf4.le
  have F4 := HF.trans hf4 (by simp)
  have Z4 : H' c = some (.cells zeroN) := (hf4.at (by omega) (by simp; omega)).trans Zc
  obtain ⟨o1, o2, es, hZ, hlen, _⟩ := hL4.nr
  simp -dsimp -implicitDefEqProofs only [go_sem, Nat.reduceAdd, Nat.reduceEqDiff, reduceIte, reduceCtorEq, Nat.reduceLeDiff, Nat.reduceLT, Nat.reduceSub, Int.reduceEq, Int.reduceLT, g0', g3', hZ, hlen]
  refine DoesK_of (most_call (o := o) (p := p) Ik hP4 (by omega) _ _) ?_
  rintro v st ⟨rfl, H5, C5, rfl, f5, P5⟩
  have hL5 := hL4.keep f5 (by simp; omega)
  have F5 := F4.trans f5 (by simp)
  have Z5 : H5 c = some (.cells zeroN) := (f5.at (by omega) (by simp; omega)).trans Z4
  simp -dsimp -implicitDefEqProofs only [go_sem, Nat.reduceAdd, Nat.reduceEqDiff, reduceIte, reduceCtorEq, Nat.reduceLeDiff, Nat.reduceLT, Nat.reduceSub, Int.reduceEq, Int.reduceLT]
  refine grow_region (nT := 3) (b := 19) (vs := []) (an := an) (h := h) (c := c) (nd := nd) (x := n3) (s := mostS T nd.ks.length 60 sk) (s' := s3) (o := o) (by simp only [get_cons, Nat.reduceEqDiff, reduceIte]; exact g0') (by simp only [get_cons, Nat.reduceEqDiff, reduceIte]; exact g3') (by omega) (by omega) F5 (by omega) hpc hL5 P5 (by omega) e2 (fun e6 H6 C6 he6 F6 hk6 P6 L6 hC6 => ?_)
  have G : ∀ t, t < 8 → e6.get t = e.get t := fun t ht => by
   rw [he6 t (by omega)]
   simp only [get_cons]
   repeat rw [if_neg (by omega)]
   exact he' t ht
  simp -dsimp -implicitDefEqProofs only [go_sem, Nat.reduceAdd, Nat.reduceEqDiff, reduceIte, reduceCtorEq, Nat.reduceLeDiff, Nat.reduceLT, Nat.reduceSub, Int.reduceEq, Int.reduceLT]
  refine Again.of m (by omega) ⟨nd.add [n3], s3, H6, C6, by obtain ⟨_, _, _, _, _, _⟩ := nd; simp only [Nd.add, Nd.ks, List.length_append, List.length_cons, List.length_nil] at hm ⊢; omega, hrk, J1, F6, P6, (hk6 c (by omega) (by omega)).trans Z5, L6, (G 0 (by omega)).trans g0, (G 2 (by omega)).trans g2, (G 3 (by omega)).trans g3, rfl⟩
 ·rw [if_neg (by rw [hq]; simp)] at hrk
  injection hrk with hrk; injection hrk with q1 q2
  subst q1; subst q2
  have g0' := (he' 0 (by omega)).trans g0
  have g2' := (he' 2 (by omega)).trans g2
  have g3' := (he' 3 (by omega)).trans g3
  have hL4 := HL.keep hf4 (by simp; omega)
  have hC4 := hf4.le
  have F4 := HF.trans hf4 (by simp)
  have Z4 : H' c = some (.cells zeroN) := (hf4.at (by omega) (by simp; omega)).trans Zc
  simp -dsimp -implicitDefEqProofs only [go_sem, Nat.reduceAdd, Nat.reduceEqDiff, reduceIte, reduceCtorEq, Nat.reduceLeDiff, Nat.reduceLT, Nat.reduceSub, Int.reduceEq, Int.reduceLT, g0']
  refine DoesK_of (must_call (o := o) (p := p) Ik hP4 (by omega) wDo) ?_
  rintro v st ⟨rfl, H5, C5, rfl, f5, P5⟩
  have hL5 := hL4.keep f5 (by simp; omega)
  have F5 := F4.trans f5 (by simp)
  have Z5 : H5 c = some (.cells zeroN) := (f5.at (by omega) (by simp; omega)).trans Z4
  simp -dsimp -implicitDefEqProofs only [go_sem, Nat.reduceAdd, Nat.reduceEqDiff, reduceIte, reduceCtorEq, Nat.reduceLeDiff, Nat.reduceLT, Nat.reduceSub, Int.reduceEq, Int.reduceLT]
  refine grow_region (nT := 3) (b := 28) (vs := [.func 35 [] []]) (an := an) (h := h) (c := c) (nd := nd) (x := n2) (s := mustS T wDo sk) (s' := s2) (o := o) (by simp only [get_cons, Nat.reduceEqDiff, reduceIte]; exact g0') (by simp only [get_cons, Nat.reduceEqDiff, reduceIte]; exact g3') (by omega) (by omega) F5 (by omega) hpc hL5 P5 (by omega) c2 (fun e6 H6 C6 he6 F6 hk6 P6 L6 hC6 => ?_)
  have G : ∀ t, t < 8 → e6.get t = e.get t := fun t ht => by
   rw [he6 t (by omega)]
   simp only [get_cons]
   repeat rw [if_neg (by omega)]
   exact he' t ht
  have G0 := (G 0 (by omega)).trans g0
  have G2 := (G 2 (by omega)).trans g2
  have G3 := (G 3 (by omega)).trans g3
  have Z6 : H6 c = some (.cells zeroN) := (hk6 c (by omega) (by omega)).trans Z5
  have hC6' := L6.lt
  simp -dsimp -implicitDefEqProofs only [go_sem, Nat.reduceAdd, Nat.reduceEqDiff, reduceIte, reduceCtorEq, Nat.reduceLeDiff, Nat.reduceLT, Nat.reduceSub, Int.reduceEq, Int.reduceLT, G0]
  refine DoesK_of (look_call (o := o) (p := p) I2 P6 (by omega)) ?_
  rintro v st ⟨rfl, H7, C7, rfl, f7, P7⟩
  have L7 := L6.keep f7 (by simp; omega)
  have hL7lt := L7.lt
  have F7 := F6.trans f7 (by simp)
  have Z7 : H7 c = some (.cells zeroN) := (f7.at (by omega) (by simp; omega)).trans Z6
  have fk : fldV false 1 0 (tkV (look T s2)) = some (.int .i64 (look T s2).1.k) := rfl
  cases hk : decide (¬ (look T s2).1.k = 0)
  ·have hk' : ¬ ((look T s2).1.k ≠ 0) := by simpa using hk
   rw [if_neg hk'] at r2
   subst r1; subst r2
   obtain ⟨o1, o2, es, hZ, hlen, hN⟩ := L7.nr
   simp -dsimp -implicitDefEqProofs only [go_sem, Nat.reduceAdd, Nat.reduceEqDiff, reduceIte, reduceCtorEq, Nat.reduceLeDiff, Nat.reduceLT, Nat.reduceSub, Int.reduceEq, Int.reduceLT, fk, hk, G0, G2, G3, hZ, Z7, zeroN, ldCells]
   exact ⟨hN, _, _, rfl, F7.upd _ (.inr (Nat.le_refl _)) (Nat.le_refl _), by rw [upd_ne _ _ (by omega)]; exact P7⟩
  ·have hk' : (look T s2).1.k ≠ 0 := by simpa using hk
   rw [if_pos hk'] at r2
   subst r1; subst r2
   simp -dsimp -implicitDefEqProofs only [go_sem, Nat.reduceAdd, Nat.reduceEqDiff, reduceIte, reduceCtorEq, Nat.reduceLeDiff, Nat.reduceLT, Nat.reduceSub, Int.reduceEq, Int.reduceLT, fk, hk, G0]
   refine DoesK_of (fail_call (o := o) (p := p) I2 P7 (by omega) 14) ?_
   rintro v st ⟨rfl, H8, C8, rfl, f8, P8⟩
   have hC7 := f7.le
   have hC8 := f8.le
   have L8 := L7.keep f8 (by simp; omega)
   have F8 := F7.trans f8 (by simp)
   have Z8 : H8 c = some (.cells zeroN) := (f8.at (by omega) (by simp; omega)).trans Z7
   obtain ⟨o1, o2, es, hZ, hlen, hN⟩ := L8.nr
   simp -dsimp -implicitDefEqProofs only [go_sem, Nat.reduceAdd, Nat.reduceEqDiff, reduceIte, reduceCtorEq, Nat.reduceLeDiff, Nat.reduceLT, Nat.reduceSub, Int.reduceEq, Int.reduceLT, G0, G2, G3, hZ, Z8, zeroN, ldCells]
   exact ⟨hN, _, _, rfl, F8.upd _ (.inr (Nat.le_refl _)) (Nat.le_refl _), by rw [upd_ne _ _ (by omega)]; exact P8⟩
end
/-- How many tokens are left; none behind an error. -/
def rem (T : List Tok) (s : PS) : Nat := if s.e = 0 then T.length - s.at_ else 0
def rank : Fn → Nat
 | .tyapp => 2 | .con => 4 | .decltype => 6 | .decl => 7 | .letE => 1 | .funE => 1 | .branch => 1 | .exp => 13 | .cmp => 12 | .sums false => 11 | .sums true => 10 | .app => 9 | .matchE => 3 | .tryE => 3 | .atom => 5 | .pat => 5 | .patom => 3 | .program => 9
 | .tyLoop _ => 1 | .conLoop _ _ => 3 | .namesLoop _ => 1 | .consLoop _ _ => 5 | .sumLoop _ _ => 1 | .appLoop _ _ => 6 | .kidsLoop _ m => 6 + m | .matchLoop _ first => if first then 2 else 1 | .patLoop _ _ => 4 | .declLoop _ => 8
theorem rank_pos (fn : Fn) : 0 < rank fn := by unfold rank; split <;> (try split) <;> omega
def strict : Fn → Nat
 | .tyLoop _ => 0 | .conLoop _ _ => 0 | .namesLoop _ => 0 | .consLoop _ _ => 0 | .sumLoop _ _ => 0 | .appLoop _ _ => 0 | .kidsLoop _ _ => 0 | .matchLoop _ _ => 0 | .patLoop _ _ => 0 | .declLoop _ => 0 | .program => 0
 | _ => 1
section
variable {T : List Tok}
def preF (T : List Tok) (fn : Fn) (s : PS) : Prop := match fn with
 | .letE | .funE | .branch | .matchE | .tryE | .decltype | .decl => s.e = 0 → (look T s).1.k ≠ 0
 | .kidsLoop _ m => m ≤ 2
 | _ => True
theorem look_bad {s : PS} (h : s.e ≠ 0) : look T s = tk0 := by rw [look, if_pos h]
theorem look_good {s : PS} (h : (look T s).1.k ≠ 0) : s.e = 0 := Classical.byContradiction fun he => h (by rw [look_bad he]; rfl)
theorem isW_good {w : List UInt8} {s : PS} (h : isW T w s = true) : s.e = 0 ∧ (look T s).1.k ≠ 0 := by
 have hk : (look T s).1.k ≠ 0 := by
  intro hk
  simp [isW, hk] at h
 exact ⟨look_good hk, hk⟩
theorem isW_bad {w : List UInt8} {s : PS} (h : s.e ≠ 0) : isW T w s = false := by
 cases hb : isW T w s
 ·rfl
 ·exact absurd (isW_good hb).1 h
theorem take_e (s : PS) : (takeS T s).e = s.e := by unfold takeS; split <;> rfl
theorem take_flat (s : PS) : (takeS T s).flat = s.flat := by unfold takeS; split <;> rfl
theorem fail_e {c : Int} (hc : c ≠ 0) (s : PS) : (fail T c s).e ≠ 0 := by
 unfold fail; split
 ·exact hc
 ·assumption
theorem rem_bad {s : PS} (h : s.e ≠ 0) : rem T s = 0 := by rw [rem, if_neg h]
theorem rem_pos {s : PS} (hi : Inv T s) (h : s.e = 0) : 0 < rem T s := by rw [rem, if_pos h]; have := hi.lt; omega
theorem rem_fail {c : Int} (hc : c ≠ 0) (s : PS) : rem T (fail T c s) = 0 := rem_bad (fail_e hc s)
theorem rem_take_le (s : PS) : rem T (takeS T s) ≤ rem T s := by
 unfold takeS; split
 ·rename_i h; simp only [rem, h.1, if_true]; omega
 ·exact Nat.le_refl _
theorem rem_take {s : PS} (hi : Inv T s) (h : s.e = 0 → (look T s).1.k ≠ 0) : rem T (takeS T s) ≤ rem T s - 1 := by
 by_cases he : s.e = 0
 ·have hl := hi.lt
  rw [takeS, if_pos ⟨he, h he⟩]; simp only [rem, he, if_true]; omega
 ·rw [rem_bad (by rw [take_e]; exact he)]; omega
theorem rem_most (n m : Int) (s : PS) : rem T (mostS T n m s) ≤ rem T s := by
 unfold mostS; split
 ·rw [rem_fail (by decide)]; omega
 ·exact Nat.le_refl _
theorem rem_word (k : Int) (s : PS) : rem T (wordS T k s) ≤ rem T s := by
 unfold wordS; split
 ·rw [rem_fail (by decide)]; omega
 ·exact Nat.le_refl _
theorem rem_must {s : PS} (hi : Inv T s) (w : List UInt8) : rem T (mustS T w s) ≤ rem T s - 1 := by
 unfold mustS; split
 ·rename_i h; exact rem_take hi fun _ => (isW_good h).2
 ·rw [rem_fail (by decide)]; omega
theorem rem_may_le (w : List UInt8) (s : PS) : rem T (mayS T w s) ≤ rem T s := by
 unfold mayS; split
 ·exact rem_take_le _
 ·exact Nat.le_refl _
theorem rem_may {s : PS} (hi : Inv T s) {w : List UInt8} (h : isW T w s = true) : rem T (mayS T w s) ≤ rem T s - 1 := by
 rw [mayS, if_pos h]; exact rem_take hi fun _ => (isW_good h).2
theorem rem_wt {s : PS} (hi : Inv T s) {k : Int} (hk : k ≠ 0) : rem T (takeS T (wordS T k s)) ≤ rem T s - 1 := by
 unfold wordS; split
 ·have := rem_take_le (T := T) (fail T 14 s); rw [rem_fail (by decide)] at this; omega
 ·rename_i h; exact rem_take hi fun _ => by simp only [ne_eq, Decidable.not_not] at h; rw [h]; exact hk
theorem rem_leaf {s : PS} (hi : Inv T s) {g : Int → Int} (h0 : g 0 = 0) : rem T (leaf T g s).2 ≤ rem T s - 1 := by
 unfold leaf; split
 ·simp only [rem_fail (show (14 : Int) ≠ 0 by decide)]; omega
 ·rename_i h; exact rem_take hi fun _ hk => h (by rw [hk, h0])
theorem leaf_dp (f : Int → Int) (s : PS) : (leaf T f s).2.deep = s.deep := by unfold leaf; split <;> simp [fail_deep, take_deep]
theorem leaf_inv {s : PS} (hi : Inv T s) (f : Int → Int) : Inv T (leaf T f s).2 := by
 unfold leaf; split
 ·exact hi.fail _
 ·exact hi.take
/-- It ends, as deep as it began, with so many tokens left at most. -/
def Ends (T : List Tok) (d : Int) (x : Option (Nd × PS)) (r : Nat) : Prop := ∃ n s, x = some (n, s) ∧ Inv T s ∧ s.deep = d ∧ rem T s ≤ r
theorem Ends.some {n : Nd} {s : PS} {r : Nat} {d : Int} (hi : Inv T s) (hd : s.deep = d) (h : rem T s ≤ r) : Ends T d (some (n, s)) r := ⟨n, s, rfl, hi, hd, h⟩
theorem Ends.mono {x : Option (Nd × PS)} {r r' : Nat} {d : Int} (h : Ends T d x r) (hr : r ≤ r') : Ends T d x r' := by
 obtain ⟨n, s, h1, h2, h3, h4⟩ := h; exact ⟨n, s, h1, h2, h3, Nat.le_trans h4 hr⟩
theorem in_ends {rn : PS → Option (Nd × PS)} {s : PS} (hi : Inv T s) (h : s.e = 0 → ∀ s', Inv T s' → rem T s' = rem T s → Ends T s'.deep (rn s') (rem T s' - 1)) : Ends T s.deep (inR T rn s) (rem T s - 1) := by
 unfold inR
 have hS : ∃ S, S = (if s.deep ≥ 40 then fail T 15 s else s) ∧ Inv T S ∧ S.deep = s.deep ∧ (S.e = 0 → S = s) := by
  refine ⟨_, rfl, ?_, ?_, ?_⟩
  ·split
   ·exact hi.fail _
   ·exact hi
  ·split
   ·exact fail_deep _ _
   ·rfl
  ·split
   ·exact fun h => absurd h (fail_e (by decide) _)
   ·exact fun _ => rfl
 obtain ⟨S, hS, hSi, hSd, hSe⟩ := hS
 simp only
 rw [← hS]
 by_cases he : S.e = 0
 ·rw [if_neg (by simpa using he)]
  have e := hSe he
  subst e
  obtain ⟨n, s2, h1, h2, h3, h4⟩ := h he _ hi.deepen rfl
  rw [h1]
  have hd0 := hi.deep
  simp only at h3
  exact ⟨_, _, rfl, ⟨h2.lt, h2.end_, h2.len, by simp only; omega⟩, by simp only; omega, h4⟩
 ·rw [if_pos he]
  exact ⟨_, _, rfl, hSi, hSd, by rw [rem_bad he]; omega⟩
theorem round_ends {rn : PS → Option (Nd × PS)} {s : PS} (hi : Inv T s) (h : ∀ s', Inv T s' → s'.e = 0 → rem T s' ≤ rem T s - 1 → Ends T s'.deep (rn s') (rem T s' - 1)) : Ends T s.deep (roundR T rn s) (rem T s - 1) := by
 unfold roundR
 have hr := rem_must hi [40]
 obtain ⟨n, s2, h1, h2, h3, h4⟩ := in_ends (rn := rn) (hi.must [40]) (fun he s' hi' hr' => h s' hi' (by
  apply Classical.byContradiction; intro hb
  rw [rem_bad hb] at hr'
  have := rem_pos (hi.must [40]) he
  omega) (by omega))
 rw [h1]
 have hr2 := rem_must h2 [41]
 exact ⟨_, _, rfl, h2.must _, by rw [must_deep, h3, must_deep], by omega⟩
theorem whole_ends {rn : PS → Option (Nd × PS)} {s : PS} (hi : Inv T s) (h : s.e = 0 → ∀ s', Inv T s' → rem T s' = rem T s → Ends T s'.deep (rn s') (rem T s' - 1)) : Ends T s.deep (wholeR T rn s) (rem T s - 1) := by
 unfold wholeR
 obtain ⟨n, s2, h1, h2, h3, h4⟩ := in_ends (rn := rn) (s := { s with flat := false }) (hi.same rfl rfl) (fun he s' hi' hr' => h he s' hi' hr')
 rw [h1]
 exact ⟨_, _, rfl, h2.same rfl rfl, h3, h4⟩
theorem value_ends {rn : PS → Option (Nd × PS)} {s : PS} (hi : Inv T s) (h : ∀ s', Inv T s' → s'.e = 0 → rem T s' ≤ rem T s → Ends T s'.deep (rn s') (rem T s' - 1)) : ∃ v s', valueR T rn s = some (v, s') ∧ Inv T s' ∧ s'.deep = s.deep ∧ rem T s' ≤ rem T s - 1 := by
 unfold valueR
 obtain ⟨S1, hS1⟩ : ∃ x, x = mayS T wRec s := ⟨_, rfl⟩
 have i1 : Inv T S1 := hS1 ▸ hi.may _
 have d1 : S1.deep = s.deep := hS1 ▸ may_deep _ _
 have r1 : rem T S1 ≤ rem T s := hS1 ▸ rem_may_le _ _
 obtain ⟨S2, hS2⟩ : ∃ x, x = mustS T [61] (takeS T (wordS T 3 S1)) := ⟨_, rfl⟩
 have i2 : Inv T S2 := hS2 ▸ ((i1.word _).take).must _
 have d2 : S2.deep = s.deep := by rw [hS2, must_deep, take_deep, word_deep, d1]
 have r2 : rem T S2 ≤ rem T s - 1 := by
  have := rem_must ((i1.word 3).take) [61]
  have := rem_wt i1 (show (3 : Int) ≠ 0 by decide)
  rw [← hS2] at *
  omega
 simp only
 rw [← hS1, ← hS2]
 obtain ⟨S3, hS3⟩ : ∃ x, x = (if (isW T wRec s && decide (S2.deep < 40) && !isW T wFun S2) = true then fail T 14 S2 else S2) := ⟨_, rfl⟩
 have i3 : Inv T S3 := by rw [hS3]; split; exact i2.fail _; exact i2
 have d3 : S3.deep = s.deep := by rw [hS3]; split; rw [fail_deep, d2]; exact d2
 have r3 : rem T S3 ≤ rem T s - 1 := by rw [hS3]; split; rw [rem_fail (by decide)]; omega; exact r2
 rw [← hS3]
 obtain ⟨n, s2, h1, h2, h3, h4⟩ := in_ends (rn := rn) i3 (fun he s' hi' hr' => h s' hi' (by
  apply Classical.byContradiction; intro hb
  rw [rem_bad hb] at hr'
  have := rem_pos i3 he
  omega) (by omega))
 rw [h1]
 exact ⟨_, _, rfl, h2, by rw [h3, d3], by omega⟩
set_option maxHeartbeats 4000000 in
theorem run_ends : ∀ (f : Nat) (fn : Fn) (s : PS), Inv T s → preF T fn s → 30 * rem T s + rank fn ≤ f → Ends T s.deep (run T f fn s) (rem T s - strict fn) := by
 intro f
 induction f with
 | zero => intro fn s hi hp hf; exfalso; have := rank_pos fn; omega
 | succ f ih =>
 -- a call, one after another
 have go : ∀ (fn : Fn) (s s0 : PS) (r : Nat), Inv T s → preF T fn s → s.deep = s0.deep → rem T s ≤ r → 30 * rem T s + rank fn ≤ f → Ends T s0.deep (run T f fn s) (r - strict fn) := by
  intro fn s s0 r hi hp hd hr hf
  rw [← hd]
  exact (ih fn s hi hp hf).mono (by omega)
 have ex : ∀ (s : PS) (r : Nat), 30 * r + 13 ≤ f → ∀ s', Inv T s' → s'.e = 0 → rem T s' ≤ r → Ends T s'.deep (run T f .exp s') (rem T s' - 1) := fun s r hf s' hi' he hr => ih .exp s' hi' trivial (by simp only [rank]; omega)
 intro fn s hi hp hf
 cases fn <;> simp only [rank] at hf <;> simp only [strict]
 case tyapp =>
  rw [run_tyapp]
  have hr := rem_wt hi (show (3 : Int) ≠ 0 by decide)
  exact (go (.tyLoop _) _ s _ (hi.word 3).take trivial (by rw [take_deep, word_deep]) hr (by simp only [rank]; omega)).mono (by simp only [strict]; omega)
 case tyLoop n =>
  rw [run_tyLoop]
  split
  ·rename_i h
   have hk : (look T s).1.k ≠ 0 := by rw [h]; decide
   have hr := rem_take hi fun _ => hk
   have hp := rem_pos hi (look_good hk)
   exact (go (.tyLoop _) _ s _ hi.take trivial (take_deep _) hr (by simp only [rank]; omega)).mono (by simp only [strict]; omega)
  ·split
   ·rename_i h
    have hp := rem_pos hi (isW_good h).1
    obtain ⟨n2, s2, h1, h2, h3, h4⟩ := round_ends (rn := run T f .tyapp) hi (fun s' hi' he hr => ih .tyapp s' hi' trivial (by simp only [rank]; omega))
    rw [h1]
    exact (go (.tyLoop _) s2 s _ h2 trivial h3 h4 (by simp only [rank]; omega)).mono (by simp only [strict]; omega)
   ·exact .some hi rfl (by omega)
 case con =>
  rw [run_con]
  have hr := rem_wt hi (show (4 : Int) ≠ 0 by decide)
  simp only
  have i1 := (hi.word 4).take
  have d1 : (takeS T (wordS T 4 s)).deep = s.deep := by rw [take_deep, word_deep]
  generalize takeS T (wordS T 4 s) = S at *
  split
  ·rename_i h
   have hp := rem_pos i1 (isW_good h).1
   have hr2 := rem_may i1 h
   exact (go (.conLoop _ _) _ s _ (i1.may _) trivial (by rw [may_deep, d1]) hr2 (by simp only [rank]; omega)).mono (by simp only [strict]; omega)
  ·exact .some i1 d1 hr
 case conLoop n more =>
  rw [run_conLoop]
  split
  ·rename_i h
   simp only [Bool.and_eq_true, decide_eq_true_eq] at h
   have hp := rem_pos hi h.2
   have hm := rem_most (T := T) n.ks.length 4 s
   obtain ⟨n2, s2, h1, h2, h3, h4⟩ := in_ends (rn := run T f .tyapp) (hi.most n.ks.length 4) (fun he s' hi' hr => ih .tyapp s' hi' trivial (by simp only [rank]; omega))
   rw [h1]
   have hr2 := rem_may_le (T := T) [44] s2
   exact (go (.conLoop _ _) _ s _ (h2.may _) trivial (by rw [may_deep, h3, most_deep]) hr2 (by simp only [rank]; omega)).mono (by simp only [strict]; omega)
  ·exact .some hi rfl (by omega)
 case decltype =>
  rw [run_decltype]
  simp only
  have hr := rem_take hi hp
  have hr1 := rem_wt hi.take (show (3 : Int) ≠ 0 by decide)
  have i1 := (hi.take.word 3).take
  have d1 : (takeS T (wordS T 3 (takeS T s))).deep = s.deep := by rw [take_deep, word_deep, take_deep]
  generalize node 25 _ _ _ = N
  generalize takeS T (wordS T 3 (takeS T s)) = S at *
  obtain ⟨n2, s2, h1, h2, h3, h4⟩ := go (.namesLoop N) S s _ i1 trivial d1 (show rem T S ≤ rem T s - 1 by omega) (by simp only [rank]; omega)
  rw [h1]
  simp only [strict] at h4
  have hr2 := rem_must h2 [61]
  exact (go (.consLoop n2 true) _ s _ (h2.must _) trivial (by rw [must_deep, h3]) hr2 (by simp only [rank]; omega)).mono (by simp only [strict]; omega)
 case namesLoop n =>
  rw [run_namesLoop]
  split
  ·rename_i h
   have hk : (look T s).1.k ≠ 0 := by rw [h]; decide
   have hp := rem_pos hi (look_good hk)
   have hr : rem T (takeS T (mostS T n.ns.length 4 s)) ≤ rem T s - 1 := by
    unfold mostS; split
    ·have := rem_take_le (T := T) (fail T 16 s); rw [rem_fail (by decide)] at this; omega
    ·exact rem_take hi fun _ => hk
   exact (go (.namesLoop _) _ s _ (hi.most _ _).take trivial (by rw [take_deep, most_deep]) hr (by simp only [rank]; omega)).mono (by simp only [strict]; omega)
  ·exact .some hi rfl (by omega)
 case consLoop n more =>
  rw [run_consLoop]
  split
  ·rename_i h
   simp only [Bool.and_eq_true, decide_eq_true_eq] at h
   have hp := rem_pos hi h.2
   have hm := rem_most (T := T) n.ks.length 20 s
   obtain ⟨n2, s2, h1, h2, h3, h4⟩ := go .con (mostS T n.ks.length 20 s) s _ (hi.most _ _) trivial (most_deep _ _ _) hm (by simp only [rank]; omega)
   rw [h1]
   simp only [strict] at h4
   have hr2 := rem_may_le (T := T) [124] s2
   exact (go (.consLoop _ _) _ s _ (h2.may _) trivial (by rw [may_deep, h3]) hr2 (by simp only [rank]; omega)).mono (by simp only [strict]; omega)
  ·exact .some hi rfl (by omega)
 case decl =>
  rw [run_decl]
  split
  ·rename_i h
   have hp := rem_pos hi (isW_good h).1
   obtain ⟨n2, s2, h1, h2, h3, h4⟩ := go .decltype s s _ hi (fun _ => (isW_good h).2) rfl (Nat.le_refl _) (by simp only [rank]; omega)
   rw [h1]
   simp only [strict] at h4
   have hr2 := rem_must h2 [59]
   exact .some (h2.must _) (by rw [must_deep, h3]) (by omega)
  ·simp only
   have hr := rem_take hi hp
   have i1 : Inv T { takeS T s with flat := true } := hi.take.same rfl rfl
   have d1 : ({ takeS T s with flat := true } : PS).deep = s.deep := take_deep s
   have r1 : rem T { takeS T s with flat := true } ≤ rem T s - 1 := hr
   generalize ({ takeS T s with flat := true } : PS) = S at *
   obtain ⟨⟨nm, rc, v⟩, s2, h1, h2, h3, h4⟩ := value_ends (rn := run T f .exp) i1 (fun s' hi' he hr => ih .exp s' hi' trivial (by have := rem_pos hi' he; simp only [rank]; omega))
   rw [h1]
   simp only
   have i3 : Inv T { s2 with flat := false } := h2.same rfl rfl
   have hr2 := rem_must i3 [59]
   have r3 : rem T { s2 with flat := false } = rem T s2 := rfl
   exact .some (i3.must _) (by rw [must_deep]; simp only; rw [h3, d1]) (by omega)
 case letE =>
  rw [run_letE]
  simp only
  have hr := rem_take hi hp
  have i1 := hi.take
  have d1 := take_deep (T := T) s
  generalize takeS T s = S at *
  obtain ⟨⟨nm, rc, v⟩, s2, h1, h2, h3, h4⟩ := value_ends (rn := run T f .exp) i1 (fun s' hi' he hr => ih .exp s' hi' trivial (by have := rem_pos hi' he; simp only [rank]; omega))
  rw [h1]
  simp only
  have hr2 := rem_must h2 wIn
  obtain ⟨n2, s3, g1, g2, g3, g4⟩ := in_ends (rn := run T f .exp) (h2.must wIn) (fun he s' hi' hr => ih .exp s' hi' trivial (by have := rem_pos (h2.must wIn) he; simp only [rank]; omega))
  rw [g1]
  exact .some g2 (by rw [g3, must_deep, h3, d1]) (by omega)
 case funE =>
  rw [run_funE]
  simp only
  have hr := rem_take hi hp
  have hr1 := rem_wt hi.take (show (3 : Int) ≠ 0 by decide)
  have i1 := (hi.take.word 3).take.must wArrow
  have hr2 := rem_must (hi.take.word 3).take wArrow
  have d1 : (mustS T wArrow (takeS T (wordS T 3 (takeS T s)))).deep = s.deep := by rw [must_deep, take_deep, word_deep, take_deep]
  generalize mustS T wArrow (takeS T (wordS T 3 (takeS T s))) = S at *
  obtain ⟨n2, s3, g1, g2, g3, g4⟩ := in_ends (rn := run T f .exp) i1 (fun he s' hi' hr => ih .exp s' hi' trivial (by have := rem_pos i1 he; simp only [rank]; omega))
  rw [g1]
  exact .some g2 (by rw [g3, d1]) (by omega)
 case branch =>
  rw [run_branch]
  simp only
  have hr := rem_take hi hp
  have i1 := hi.take
  have d1 := take_deep (T := T) s
  generalize takeS T s = S at *
  obtain ⟨n2, s2, h1, h2, h3, h4⟩ := in_ends (rn := run T f .exp) i1 (fun he s' hi' hr => ih .exp s' hi' trivial (by have := rem_pos i1 he; simp only [rank]; omega))
  rw [h1]
  simp only
  have hr2 := rem_must h2 wThen
  have i2 := h2.must wThen
  have d2 : (mustS T wThen s2).deep = s.deep := by rw [must_deep, h3, d1]
  generalize mustS T wThen s2 = S2 at *
  obtain ⟨n3, s3, g1, g2, g3, g4⟩ := in_ends (rn := run T f .exp) i2 (fun he s' hi' hr => ih .exp s' hi' trivial (by have := rem_pos i2 he; simp only [rank]; omega))
  rw [g1]
  simp only
  have hr3 := rem_must g2 wElse
  have i3 := g2.must wElse
  have d3 : (mustS T wElse s3).deep = s.deep := by rw [must_deep, g3, d2]
  generalize mustS T wElse s3 = S3 at *
  obtain ⟨n4, s4, k1, k2, k3, k4⟩ := in_ends (rn := run T f .exp) i3 (fun he s' hi' hr => ih .exp s' hi' trivial (by have := rem_pos i3 he; simp only [rank]; omega))
  rw [k1]
  exact .some k2 (by rw [k3, d3]) (by omega)
 case exp =>
  rw [run_exp]
  have key : ∀ w, (look T s).1.k = 6 ∧ (look T s).1.t = w → s.e = 0 → (look T s).1.k ≠ 0 := fun w h _ => by rw [h.1]; decide
  split
  ·rename_i h
   exact ih .letE s hi (key _ h) (by simp only [rank]; omega)
  split
  ·rename_i h
   exact ih .funE s hi (key _ h) (by simp only [rank]; omega)
  split
  ·rename_i h
   exact ih .branch s hi (key _ h) (by simp only [rank]; omega)
  obtain ⟨n2, s2, h1, h2, h3, h4⟩ := go .cmp s s _ hi trivial rfl (Nat.le_refl _) (by simp only [rank]; omega)
  rw [h1]
  simp only [strict] at h4 ⊢
  split
  ·rename_i h
   simp only [Bool.and_eq_true] at h
   have hp := rem_pos h2 (isW_good h.2).1
   have hr2 := rem_may h2 h.2
   obtain ⟨n4, s4, k1, k2, k3, k4⟩ := in_ends (rn := run T f .exp) (h2.may [59]) (fun he s' hi' hr => ih .exp s' hi' trivial (by simp only [rank]; omega))
   rw [k1]
   exact .some k2 (by rw [k3, may_deep, h3]) (by omega)
  ·exact .some h2 h3 (by omega)
 case cmp =>
  rw [run_cmp]
  obtain ⟨n2, s2, h1, h2, h3, h4⟩ := go (.sums false) s s _ hi trivial rfl (Nat.le_refl _) (by simp only [rank]; omega)
  rw [h1]
  simp only [strict] at h4 ⊢
  split
  ·rename_i h
   have hk : (look T s2).1.k ≠ 0 := by
    rcases Bool.or_eq_true _ _ ▸ h with h | h
    ·exact (isW_good h).2
    ·exact (isW_good h).2
   have hp := rem_pos h2 (look_good hk)
   have hr2 := rem_take h2 fun _ => hk
   obtain ⟨n3, s3, g1, g2, g3, g4⟩ := go (.sums false) (takeS T s2) s _ h2.take trivial (by rw [take_deep, h3]) hr2 (by simp only [rank]; omega)
   rw [g1]
   simp only [strict] at g4
   exact .some g2 g3 (by omega)
  ·exact .some h2 h3 (by omega)
 case sums mul =>
  rw [run_sums]
  obtain ⟨n2, s2, h1, h2, h3, h4⟩ := go (if mul then .app else .sums true) s s _ hi (by cases mul <;> exact trivial) rfl (Nat.le_refl _) (by cases mul <;> simp only [rank, if_true, if_false, Bool.false_eq_true] at hf ⊢ <;> omega)
  rw [h1]
  have h5 : rem T s2 ≤ rem T s - 1 := by cases mul <;> simpa only [strict, if_true, if_false, Bool.false_eq_true] using h4
  exact (go (.sumLoop mul n2) s2 s _ h2 trivial h3 h5 (by simp only [rank]; cases mul <;> simp only [rank] at hf <;> omega)).mono (by simp only [strict]; omega)
 case sumLoop mul n =>
  rw [run_sumLoop]
  split
  ·rename_i h
   have hk : (look T s).1.k ≠ 0 := by rw [h.1]; decide
   have hp := rem_pos hi (look_good hk)
   have hr := rem_take hi fun _ => hk
   simp only
   obtain ⟨n2, s2, h1, h2, h3, h4⟩ := go (if mul then .app else .sums true) (takeS T s) s _ hi.take (by cases mul <;> exact trivial) (take_deep _) hr (by cases mul <;> simp only [rank, if_true, if_false, Bool.false_eq_true] <;> omega)
   rw [h1]
   exact (go (.sumLoop mul _) s2 s _ h2 trivial h3 h4 (by simp only [rank]; omega)).mono (by simp only [strict]; omega)
  ·exact .some hi rfl (by omega)
 case app =>
  rw [run_app]
  split
  ·rename_i h
   have hk : (look T s).1.k ≠ 0 := by rw [h.1]; decide
   have hp := rem_pos hi (look_good hk)
   have hr := rem_take hi fun _ => hk
   have h2 : (kindOf (look T s).1.t).2 ≤ 2 := by unfold kindOf; repeat' (first | split | decide)
   exact (go (.kidsLoop _ _) _ s _ hi.take h2 (take_deep _) hr (by simp only [rank]; omega)).mono (by simp only [strict]; omega)
  ·simp only
   obtain ⟨n2, s2, h1, h2, h3, h4⟩ := go .atom s s _ hi trivial rfl (Nat.le_refl _) (by simp only [rank]; omega)
   rw [h1]
   simp only [strict] at h4
   exact (go (.appLoop _ _) s2 s _ h2 trivial h3 h4 (by simp only [rank]; omega)).mono (by simp only [strict]; omega)
 case kidsLoop n many =>
  rw [run_kidsLoop]
  cases many with
  | zero => exact .some hi rfl (by omega)
  | succ many =>
   simp only
   obtain ⟨n2, s2, h1, h2, h3, h4⟩ := go .atom s s _ hi trivial rfl (Nat.le_refl _) (by simp only [rank]; omega)
   rw [h1]
   simp only [strict] at h4
   have hp' : many + 1 ≤ 2 := hp
   exact (go (.kidsLoop _ _) s2 s _ h2 (show many ≤ 2 by omega) h3 h4 (by simp only [rank]; omega)).mono (by simp only [strict]; omega)
 case appLoop bare n =>
  rw [run_appLoop]
  split
  ·rename_i h
   have he : s.e = 0 := by
    apply Classical.byContradiction; intro he
    simp [begins, look_bad he, tk0, isW_bad he] at h
   have hp := rem_pos hi he
   split
   ·have hm := rem_most (T := T) n.ks.length 4 s
    obtain ⟨n2, s2, h1, h2, h3, h4⟩ := go .atom (mostS T n.ks.length 4 s) s _ (hi.most _ _) trivial (most_deep _ _ _) hm (by simp only [rank]; omega)
    rw [h1]
    simp only [strict] at h4
    exact (go (.appLoop _ _) s2 s _ h2 trivial h3 h4 (by simp only [rank]; omega)).mono (by simp only [strict]; omega)
   ·obtain ⟨n2, s2, h1, h2, h3, h4⟩ := go .atom s s _ hi trivial rfl (Nat.le_refl _) (by simp only [rank]; omega)
    rw [h1]
    simp only [strict] at h4
    exact (go (.appLoop _ _) s2 s _ h2 trivial h3 h4 (by simp only [rank]; omega)).mono (by simp only [strict]; omega)
  ·exact .some hi rfl (by omega)
 case matchE =>
  rw [run_matchE]
  simp only
  have hr := rem_take hi hp
  have i1 := hi.take
  have d1 := take_deep (T := T) s
  generalize takeS T s = S at *
  obtain ⟨n2, s2, h1, h2, h3, h4⟩ := whole_ends (rn := run T f .exp) i1 (fun he s' hi' hr => ih .exp s' hi' trivial (by have := rem_pos i1 he; simp only [rank]; omega))
  rw [h1]
  simp only
  have hr2 := rem_must h2 wWith
  obtain ⟨n3, s3, g1, g2, g3, g4⟩ := go (.matchLoop (node 11 (look T s).2 [] [n2]) true) (mustS T wWith s2) s _ (h2.must _) trivial (by rw [must_deep, h3, d1]) hr2 (by simp only [rank, if_true]; omega)
  rw [g1]
  simp only [strict] at g4
  have hr3 := rem_must g2 wEnd
  exact .some (g2.must _) (by rw [must_deep, g3]) (by omega)
 case matchLoop n first =>
  rw [run_matchLoop]
  split
  ·rename_i h
   have hm := rem_most (T := T) ((n.ks.length / 2 : Nat) : Int) 20 s
   have i1 := hi.most ((n.ks.length / 2 : Nat) : Int) 20
   have d1 := most_deep (T := T) ((n.ks.length / 2 : Nat) : Int) 20 s
   generalize mostS T ((n.ks.length / 2 : Nat) : Int) 20 s = S at *
   have hr := rem_must i1 [124]
   have i2 := i1.must [124]
   have d2 := must_deep (T := T) [124] S
   generalize mustS T [124] S = S2 at *
   obtain ⟨n2, s2, h1, h2, h3, h4⟩ := in_ends (rn := run T f .pat) i2 (fun he s' hi' hr => ih .pat s' hi' trivial (by have := rem_pos i2 he; simp only [rank]; split at hf <;> omega))
   rw [h1]
   simp only
   have hr3 := rem_must h2 wArrow
   have i3 := h2.must wArrow
   obtain ⟨n3, s3, g1, g2, g3, g4⟩ := whole_ends (rn := run T f .exp) i3 (fun he s' hi' hr => ih .exp s' hi' trivial (by have := rem_pos i3 he; simp only [rank]; split at hf <;> omega))
   rw [g1]
   refine (go (.matchLoop _ false) s3 s (rem T s) g2 trivial (by rw [g3, must_deep, h3, d2, d1]) (by omega) ?_).mono (by simp only [strict]; omega)
   simp only [rank, Bool.false_eq_true, if_false]
   by_cases he : s.e = 0
   ·have := rem_pos hi he
    split at hf <;> omega
   ·rw [rem_bad he] at hm hf
    simp only [isW_bad he, Bool.or_false] at h
    rw [h] at hf
    simp only [if_true] at hf
    omega
  ·exact .some hi rfl (by omega)
 case tryE =>
  rw [run_tryE]
  simp only
  have hr := rem_take hi hp
  have i1 := hi.take
  have d1 := take_deep (T := T) s
  generalize takeS T s = S at *
  obtain ⟨n2, s2, h1, h2, h3, h4⟩ := whole_ends (rn := run T f .exp) i1 (fun he s' hi' hr => ih .exp s' hi' trivial (by have := rem_pos i1 he; simp only [rank]; omega))
  rw [h1]
  simp only
  have hr2 := rem_must h2 wWith
  have hr3 := rem_wt (h2.must wWith) (show (3 : Int) ≠ 0 by decide)
  have hr4 := rem_must ((h2.must wWith).word 3).take wArrow
  have i2 := ((h2.must wWith).word 3).take.must wArrow
  have d2 : (mustS T wArrow (takeS T (wordS T 3 (mustS T wWith s2)))).deep = s.deep := by rw [must_deep, take_deep, word_deep, must_deep, h3, d1]
  generalize mustS T wArrow (takeS T (wordS T 3 (mustS T wWith s2))) = S2 at *
  obtain ⟨n3, s3, g1, g2, g3, g4⟩ := whole_ends (rn := run T f .exp) i2 (fun he s' hi' hr => ih .exp s' hi' trivial (by have := rem_pos i2 he; simp only [rank]; omega))
  rw [g1]
  simp only
  have hr5 := rem_must g2 wEnd
  exact .some (g2.must _) (by rw [must_deep, g3, d2]) (by omega)
 case atom =>
  rw [run_atom]
  split
  ·rename_i h
   exact ih .matchE s hi (fun _ => (isW_good h).2) (by simp only [rank]; omega)
  split
  ·rename_i h
   exact ih .tryE s hi (fun _ => (isW_good h).2) (by simp only [rank]; omega)
  split
  ·rename_i h
   exact .some hi.take (take_deep _) (rem_take hi fun _ => (isW_good h).2)
  split
  ·rename_i h
   have hp := rem_pos hi (isW_good h).1
   have hr := rem_take hi fun _ => (isW_good h).2
   simp only
   have i1 := hi.take
   have d1 := take_deep (T := T) s
   generalize takeS T s = S at *
   split
   ·have := rem_may_le (T := T) [41] S
    exact .some (i1.may _) (by rw [may_deep, d1]) (by omega)
   ·obtain ⟨n2, s2, h1, h2, h3, h4⟩ := whole_ends (rn := run T f .exp) i1 (fun he s' hi' hr => ih .exp s' hi' trivial (by simp only [rank]; omega))
    rw [h1]
    simp only
    have hr5 := rem_must h2 [41]
    exact .some (h2.must _) (by rw [must_deep, h3, d1]) (by omega)
  ·exact ⟨_, _, rfl, leaf_inv hi _, leaf_dp _ _, rem_leaf hi rfl⟩
 case pat =>
  rw [run_pat]
  simp only
  obtain ⟨n2, s2, h1, h2, h3, h4⟩ := go .patom s s _ hi trivial rfl (Nat.le_refl _) (by simp only [rank]; omega)
  rw [h1]
  simp only [strict] at h4
  exact (go (.patLoop _ _) s2 s _ h2 trivial h3 h4 (by simp only [rank]; omega)).mono (by simp only [strict]; omega)
 case patLoop c n =>
  rw [run_patLoop]
  split
  ·rename_i h
   simp only [Bool.and_eq_true] at h
   have he : s.e = 0 := by
    apply Classical.byContradiction; intro he
    have := h.2
    simp [patMore, look_bad he, tk0, isW_bad he] at this
   have hp := rem_pos hi he
   have hm := rem_most (T := T) n.ks.length 4 s
   obtain ⟨n2, s2, h1, h2, h3, h4⟩ := go .patom (mostS T n.ks.length 4 s) s _ (hi.most _ _) trivial (most_deep _ _ _) hm (by simp only [rank]; omega)
   rw [h1]
   simp only [strict] at h4
   exact (go (.patLoop _ _) s2 s _ h2 trivial h3 h4 (by simp only [rank]; omega)).mono (by simp only [strict]; omega)
  ·exact .some hi rfl (by omega)
 case patom =>
  rw [run_patom]
  split
  ·rename_i h
   exact .some (hi.may _) (may_deep _ _) (rem_may hi h)
  split
  ·rename_i h
   have hp := rem_pos hi (isW_good h).1
   exact round_ends (rn := run T f .pat) hi (fun s' hi' he hr => ih .pat s' hi' trivial (by simp only [rank]; omega))
  ·exact ⟨_, _, rfl, leaf_inv hi _, leaf_dp _ _, rem_leaf hi rfl⟩
 case program =>
  rw [run_program]
  obtain ⟨n2, s2, h1, h2, h3, h4⟩ := go (.declLoop (node 30 (look T s).2 [] [])) s s _ hi trivial rfl (Nat.le_refl _) (by simp only [rank]; omega)
  rw [h1]
  simp only [strict] at h4 ⊢
  have hr2 := rem_must h2 wDo
  obtain ⟨n3, s3, g1, g2, g3, g4⟩ := in_ends (rn := run T f .exp) (h2.must wDo) (fun he s' hi' hr => ih .exp s' hi' trivial (by have := rem_pos (h2.must wDo) he; simp only [rank]; omega))
  rw [g1]
  simp only
  split
  ·exact .some (g2.fail _) (by rw [fail_deep, g3, must_deep, h3]) (by rw [rem_fail (by decide)]; omega)
  ·exact .some g2 (by rw [g3, must_deep, h3]) (by omega)
 case declLoop n =>
  rw [run_declLoop]
  split
  ·rename_i h
   have hk : (look T s).1.k ≠ 0 := by
    rcases Bool.or_eq_true _ _ ▸ h with h | h
    ·exact (isW_good h).2
    ·exact (isW_good h).2
   have hp := rem_pos hi (look_good hk)
   have hm := rem_most (T := T) n.ks.length 60 s
   have hpre : preF T .decl (mostS T n.ks.length 60 s) := by
    intro he
    unfold mostS at he ⊢
    split
    ·rename_i hh; rw [if_pos hh] at he; exact absurd he (fail_e (by decide) _)
    ·exact hk
   obtain ⟨n2, s2, h1, h2, h3, h4⟩ := go .decl (mostS T n.ks.length 60 s) s _ (hi.most _ _) hpre (most_deep _ _ _) hm (by simp only [rank]; omega)
   rw [h1]
   simp only [strict] at h4
   exact (go (.declLoop _) s2 s _ h2 trivial h3 h4 (by simp only [rank]; omega)).mono (by simp only [strict]; omega)
  ·exact .some hi rfl (by omega)
end
section
variable {T : List Tok} {p : Nat} {o : Own}
structure AllR (T : List Tok) (p : Nat) (o : Own) (f : Nat) : Prop where
 tyapp : Reads T p o 80 (run T f .tyapp)
 con : Reads T p o 64 (run T f .con)
 decltype : Reads T p o 48 (run T f .decltype)
 decl : Reads T p o 32 (run T f .decl)
 letE : Reads T p o 65 (run T f .letE)
 funE : Reads T p o 66 (run T f .funE)
 branch : Reads T p o 67 (run T f .branch)
 exp : Reads T p o 35 (run T f .exp)
 cmp : Reads T p o 54 (run T f .cmp)
 sums : ∀ mul, ReadsA T p o 68 [signsV mul] (run T f (.sums mul))
 app : Reads T p o 82 (run T f .app)
 matchE : Reads T p o 99 (run T f .matchE)
 tryE : Reads T p o 100 (run T f .tryE)
 atom : Reads T p o 93 (run T f .atom)
 pat : Reads T p o 107 (run T f .pat)
 patom : Reads T p o 109 (run T f .patom)
 program : Reads T p o 18 (run T f .program)
theorem all_reads : ∀ f, f ≤ 1000000000 → AllR T p o f := by
 intro f
 induction f using Nat.strongRecOn with
 | _ f ih =>
 intro hf
 cases f with
 | zero =>
  have h0 : ∀ g fn, Reads T p o g (run T 0 fn) := fun g fn s n s' hi hr => by cases hr
  exact ⟨h0 _ _, h0 _ _, h0 _ _, h0 _ _, h0 _ _, h0 _ _, h0 _ _, h0 _ _, h0 _ _, fun mul s n s' hi hr => (by cases hr), h0 _ _, h0 _ _, h0 _ _, h0 _ _, h0 _ _, h0 _ _, h0 _ _⟩
 | succ f =>
  have a : ∀ m, m ≤ f → AllR T p o m := fun m hm => ih m (by omega) (by omega)
  have b := a f (Nat.le_refl _)
  have hf' : f ≤ 1000000000 := by omega
  have hs : ∀ mul m, m ≤ f → ReadsPt T p o mul (run T m (if mul then .app else .sums true)) := fun mul m hm => part_reads mul (by
   cases mul
   ·exact (a m hm).sums true
   ·exact (a m hm).app)
  exact ⟨tyapp_reads hf' fun m hm => (a m hm).tyapp, con_reads hf' fun m hm => (a m hm).tyapp, decltype_reads hf' fun m hm => (a m hm).con, decl_reads b.decltype b.exp, let_reads b.exp, fun_reads b.exp, branch_reads b.exp,
   exp_reads b.letE b.funE b.branch b.cmp b.exp, cmp_reads (b.sums false), fun mul => sums_reads mul (hs mul), app_reads hf' fun m hm => (a m hm).atom, match_reads hf' (fun m hm => (a m hm).pat) fun m hm => (a m hm).exp,
   try_reads b.exp, atom_reads b.matchE b.tryE b.exp, pat_reads hf' fun m hm => (a m hm).patom, patom_reads b.pat, program_reads hf' (fun m hm => (a m hm).decl) b.exp⟩
end
def ps0 : PS := ⟨0, 0, false, 0, 0⟩
/-- A source's node, a place, an error. -/
def progR (s : List UInt8) : Nd × Int × Int :=
 if (Toks s).2.2 ≠ 0 then (nd0, (Toks s).2.1, (Toks s).2.2) else
 match run (Toks s).1 (30 * (Toks s).1.length + 9) .program ps0 with
 | some (n, q) => if q.e ≠ 0 then (nd0, q.bad, q.e) else (n, 0, 0)
 | none => (nd0, 0, 0)
theorem toks_inv {s : List UInt8} (h : (Toks s).2.2 = 0) : Inv (Toks s).1 ps0 := by
 obtain ⟨_, l, hl, hr⟩ := (Toks_rise s).2 h
 have hlen := Toks_len s
 have h2000 : s.length ≤ 2000 := by
  rcases Nat.lt_or_ge 2000 s.length with h' | h'
  ·rw [Toks, if_pos h'] at h; simp at h
  ·exact h'
 rw [hl] at hlen ⊢
 refine ⟨by simp [ps0], fun i t hi hk => ?_, by omega, Int.le_refl 0⟩
 rcases Nat.lt_or_ge i l.length with h' | h'
 ·simp; omega
 ·rw [List.getElem?_append_right h'] at hi
  have : i - l.length = 0 := by
   rcases Nat.eq_zero_or_pos (i - l.length) with h0 | h0
   ·exact h0
   ·rw [List.getElem?_eq_none (by simp; omega)] at hi; cases hi
  rw [this] at hi
  simp at hi
  subst hi
  exact absurd rfl hk
theorem prog_some {s : List UInt8} (h : (Toks s).2.2 = 0) : ∃ n q, run (Toks s).1 (30 * (Toks s).1.length + 9) .program ps0 = some (n, q) := by
 have hi := toks_inv h
 obtain ⟨n, q, h1, _⟩ := run_ends (30 * (Toks s).1.length + 9) .program ps0 hi trivial (by simp [rem, ps0, rank])
 exact ⟨n, q, h1⟩
theorem prog_call (s : List UInt8) (h : Hp) (c : Nat) (d : List (Nat × List AV)) :
  Does X 11 [.str s] ⟨h, c, d⟩ fun v st => ∃ nv, v = .tuple [nv, .int .i64 (progR s).2.1, .int .i64 (progR s).2.2] ∧ NR (progR s).1 nv ∧ ∃ h' c', st = ⟨h', c', d⟩ ∧ Fr h c h' c' [] := by
 obtain ⟨R, hR⟩ : ∃ R, R = progR s := ⟨_, rfl⟩
 rw [← hR]
 refine call_aw b11 rfl rfl rfl ?_; delta b11
 simp -dsimp -implicitDefEqProofs only [go_sem, Nat.reduceAdd, Nat.reduceEqDiff, reduceIte, reduceCtorEq, Nat.reduceLeDiff, Nat.reduceLT, Nat.reduceSub, Int.reduceEq, Int.reduceLT, preH, OpK_alloc]
 refine DoesK_of (tokens_call s _ _ _) ?_
 rintro v st ⟨o, rfl, H1, C1, rfl, f1⟩
 have l1 := f1.le
 have Z1 : H1 c = some (.cells zeroN) := (f1.at (by omega) (by simp)).trans (upd_same _ _ _)
 have F1 : Fr h c H1 C1 [] := ((Fr.refl h c []).upd _ (.inr (Nat.le_refl _)) (Nat.le_succ _)).trans f1 (by simp)
 unfold progR at hR
 cases he : decide (¬ (Toks s).2.2 = 0)
 case true =>
  have he' : (Toks s).2.2 ≠ 0 := by simpa using he
  rw [if_pos he'] at hR
  subst hR
  simp -dsimp -implicitDefEqProofs only [go_sem, Nat.reduceAdd, Nat.reduceEqDiff, reduceIte, reduceCtorEq, Nat.reduceLeDiff, Nat.reduceLT, Nat.reduceSub, Int.reduceEq, Int.reduceLT, he, Z1, zeroN, fillV, ldCells]
  exact ⟨_, rfl, NR.zero, _, _, rfl, F1.upd _ (.inr (Nat.le_refl _)) (Nat.le_refl _)⟩
 have he' : (Toks s).2.2 = 0 := by simpa using he
 rw [if_neg (by simpa using he')] at hR
 obtain ⟨n, q, hq⟩ := prog_some he'
 rw [hq] at hR
 simp only at hR
 have hi := toks_inv he'
 have hlen := Toks_len s
 have h2000 : s.length ≤ 2000 := by
  rcases Nat.lt_or_ge 2000 s.length with h' | h'
  ·rw [Toks, if_pos h'] at he'; simp at he'
  ·exact h'
 obtain ⟨⟨_, iq⟩, hc⟩ := (all_reads (T := (Toks s).1) (p := C1) (o := o) (30 * (Toks s).1.length + 9) (by omega)).program _ _ _ hi hq
 simp -dsimp -implicitDefEqProofs only [go_sem, Nat.reduceAdd, Nat.reduceEqDiff, reduceIte, reduceCtorEq, Nat.reduceLeDiff, Nat.reduceLT, Nat.reduceSub, Int.reduceEq, Int.reduceLT, preH, OpK_alloc, he, fillV, boxV]
 refine DoesK_of (hc _ _ _ (by rw [upd_ne _ _ (by omega), upd_same]; rfl) (by omega)) ?_
 intro v st hv
 obtain ⟨N2, H2, C2, hst, f2, P2⟩ := hv
 subst hst
 have l2 := f2.le
 have Z2 : H2 c = some (.cells zeroN) := (f2.at (by omega) (by simp; omega)).trans (by rw [upd_ne _ _ (by omega), upd_ne _ _ (by omega)]; exact Z1)
 have Y2 : H2 (C1 + 1) = some (.cells zeroN) := (f2.at (by omega) (by simp)).trans (upd_same _ _ _)
 have F2 : Fr h c H2 C2 [] := ((F1.upd _ (.inr (by omega)) (Nat.le_succ _)).upd _ (.inr (by omega)) (Nat.le_succ _)).trans f2 (by simp; omega)
 obtain ⟨o1, o2, es, rfl, _⟩ := N2.inv
 have u1 : ∀ h x, upd h (C1 + 1) x C1 = h C1 := fun h x => upd_ne h x (by omega)
 have u2 : ∀ h x, upd h (C1 + 1) x c = h c := fun h x => upd_ne h x (by omega)
 have u3 : ∀ h x, upd h c x (C1 + 1) = h (C1 + 1) := fun h x => upd_ne h x (by omega)
 have u4 : ∀ h x, upd h c x C1 = h C1 := fun h x => upd_ne h x (by omega)
 cases hqe : decide (¬ q.e = 0)
 ·have hqe' : ¬ q.e ≠ 0 := by simpa using hqe
  rw [if_neg hqe'] at hR
  subst hR
  simp -dsimp -implicitDefEqProofs only [go_sem, Nat.reduceAdd, Nat.reduceEqDiff, reduceIte, reduceCtorEq, Nat.reduceLeDiff, Nat.reduceLT, Nat.reduceSub, Int.reduceEq, Int.reduceLT, OpK_alloc, Y2, zeroN, ldCells, u1, u2, u3, u4, P2, pcell, hqe, Z2, upd_same]
  exact ⟨_, rfl, N2, _, _, rfl, (F2.upd _ (.inr (by omega)) (Nat.le_refl _)).upd _ (.inr (Nat.le_refl _)) (Nat.le_refl _)⟩
 ·have hqe' : q.e ≠ 0 := by simpa using hqe
  rw [if_pos hqe'] at hR
  subst hR
  simp -dsimp -implicitDefEqProofs only [go_sem, Nat.reduceAdd, Nat.reduceEqDiff, reduceIte, reduceCtorEq, Nat.reduceLeDiff, Nat.reduceLT, Nat.reduceSub, Int.reduceEq, Int.reduceLT, Aw_region1, OpsK_some1, OpsK_none1, OpsK_guard1, maskOf, List.flatMap_cons, List.flatMap_nil, OpK_alloc, Y2, zeroN, ldCells, u1, u2, u3, u4, P2, pcell, hqe, Z2, upd_same, fillV]
  simp only [List.contains_cons, List.contains_nil, Nat.reduceBEq, Bool.or_false, Bool.or_true, Bool.false_or, Bool.true_or, Bool.false_eq_true, if_true, if_false, opKey, ldKey, ev_tmp, get_cons, Nat.reduceEqDiff, reduceIte, Stable_cons, Stable_nil, List.forall_mem_cons, and_true, true_and]
  have u5 : ∀ h x, upd h c x C1 = h C1 := fun h x => upd_ne h x (by omega)
  refine ⟨by simp [u1, u5, P2, pcell], ?_⟩
  exact ⟨_, rfl, NR.zero, _, _, rfl, (F2.upd _ (.inr (by omega)) (Nat.le_refl _)).upd _ (.inr (Nat.le_refl _)) (Nat.le_refl _)⟩
end Go.Proofs.YtdohdncgjendkaaDoor
