/- Places don't matter to what is read. Whether two nodes are the same. What the laws of the parser ask besides. What each function of the parser keeps. Each node stands where a token does, none ahead of the node that it is in. What a source's node is. -/
import Derived.Test.YtdohdncgjendkaaDoorGC
set_option linter.unusedVariables false
set_option linter.unusedSimpArgs false
namespace Go.Proofs.YtdohdncgjendkaaDoor
open Abs Go.RowKit
mutual
def erN : Nd → Nd
 | .mk k t n _ ns ks => .mk k t n 0 ns (erL ks)
def erL : List Nd → List Nd
 | [] => []
 | x :: xs => erN x :: erL xs
end
theorem erL_map : ∀ l : List Nd, erL l = l.map erN
 | [] => rfl
 | x :: xs => by rw [erL, erL_map xs]; rfl
def erT (T : List Tok) : List Tok := T.map fun p => (p.1, 0)
def erS (s : PS) : PS := { s with bad := 0 }
def erP (x : Option (Nd × PS)) : Option (Nd × PS) := x.map fun p => (erN p.1, erS p.2)
def erF : Fn → Fn
 | .tyLoop n => .tyLoop (erN n) | .conLoop n b => .conLoop (erN n) b | .namesLoop n => .namesLoop (erN n) | .consLoop n b => .consLoop (erN n) b | .sumLoop b n => .sumLoop b (erN n) | .appLoop b n => .appLoop b (erN n) | .kidsLoop n m => .kidsLoop (erN n) m
 | .matchLoop n b => .matchLoop (erN n) b | .patLoop b n => .patLoop b (erN n) | .declLoop n => .declLoop (erN n)
 | x => x
theorem erN_k (n : Nd) : (erN n).k = n.k := by cases n; rfl
theorem erN_t (n : Nd) : (erN n).t = n.t := by cases n; rfl
theorem erN_n (n : Nd) : (erN n).n = n.n := by cases n; rfl
theorem erN_a (n : Nd) : (erN n).a = 0 := by cases n; rfl
theorem erN_ns (n : Nd) : (erN n).ns = n.ns := by cases n; rfl
theorem erN_ks (n : Nd) : (erN n).ks = erL n.ks := by cases n; rfl
theorem erL_len (l : List Nd) : (erL l).length = l.length := by rw [erL_map, List.length_map]
theorem erN_node (k a : Int) (t : List UInt8) (ks : List Nd) : erN (node k a t ks) = node k 0 t (erL ks) := rfl
theorem erN_add (n : Nd) (xs : List Nd) : erN (n.add xs) = (erN n).add (erL xs) := by
 cases n; simp only [Nd.add, erN, erL_map, List.map_append]
theorem erN_name (n : Nd) (x : List UInt8) : erN (n.name x) = (erN n).name x := by cases n; rfl
theorem erN_0 : erN nd0 = nd0 := rfl
section
variable {T : List Tok} {s : PS}
theorem look_er : look (erT T) (erS s) = ((look T s).1, 0) := by
 by_cases h : s.e ≠ 0
 ·rw [look, look, if_pos h, if_pos (show (erS s).e ≠ 0 from h)]; rfl
 ·rw [look, look, if_neg h, if_neg (show ¬ (erS s).e ≠ 0 from h)]
  simp only [List.getD_eq_getElem?_getD, erT, List.getElem?_map]
  show (Option.map _ T[s.at_]?).getD _ = _
  cases T[s.at_]? <;> rfl
theorem isW_er (w : List UInt8) : isW (erT T) w (erS s) = isW T w s := by simp only [isW, look_er]
theorem fail_er (c : Int) : fail (erT T) c (erS s) = erS (fail T c s) := by
 simp only [fail, look_er]
 by_cases h : s.e = 0
 ·rw [if_pos h, if_pos (show (erS s).e = 0 from h)]; rfl
 ·rw [if_neg h, if_neg (show ¬ (erS s).e = 0 from h)]
theorem take_er : takeS (erT T) (erS s) = erS (takeS T s) := by
 simp only [takeS, look_er]
 by_cases h : s.e = 0 ∧ (look T s).1.k ≠ 0
 ·rw [if_pos h, if_pos (show (erS s).e = 0 ∧ (look T s).1.k ≠ 0 from h)]; rfl
 ·rw [if_neg h, if_neg (show ¬ ((erS s).e = 0 ∧ (look T s).1.k ≠ 0) from h)]
theorem may_er (w : List UInt8) : mayS (erT T) w (erS s) = erS (mayS T w s) := by
 simp only [mayS, isW_er, take_er]; split <;> rfl
theorem must_er (w : List UInt8) : mustS (erT T) w (erS s) = erS (mustS T w s) := by
 simp only [mustS, isW_er, take_er, fail_er]; split <;> rfl
theorem word_er (k : Int) : wordS (erT T) k (erS s) = erS (wordS T k s) := by
 simp only [wordS, look_er, fail_er]; split <;> rfl
theorem most_er (n m : Int) : mostS (erT T) n m (erS s) = erS (mostS T n m s) := by
 simp only [mostS, fail_er]; split <;> rfl
theorem begins_er : begins (erT T) (erS s) = begins T s := by simp only [begins, isW_er, look_er]
theorem patMore_er : patMore (erT T) (erS s) = patMore T s := by simp only [patMore, isW_er, look_er]
theorem leaf_er (g : Int → Int) : leaf (erT T) g (erS s) = (erN (leaf T g s).1, erS (leaf T g s).2) := by
 simp only [leaf, look_er, fail_er, take_er]; split <;> rfl
theorem erS_e : (erS s).e = s.e := rfl
theorem erS_deep : (erS s).deep = s.deep := rfl
theorem erS_flat : (erS s).flat = s.flat := rfl
theorem in_er {rn rn' : PS → Option (Nd × PS)} (h : ∀ s, rn' (erS s) = erP (rn s)) (s : PS) : inR (erT T) rn' (erS s) = erP (inR T rn s) := by
 simp only [inR]
 have hS : (if (erS s).deep ≥ 40 then fail (erT T) 15 (erS s) else erS s) = erS (if s.deep ≥ 40 then fail T 15 s else s) := by
  rw [fail_er, erS_deep]; by_cases h : s.deep ≥ 40
  ·rw [if_pos h, if_pos h]
  ·rw [if_neg h, if_neg h]
 rw [hS]
 generalize (if s.deep ≥ 40 then fail T 15 s else s) = S
 by_cases he : S.e = 0
 ·rw [if_neg (by simpa [erS_e] using he), if_neg (by simpa using he)]
  have := h { S with deep := S.deep + 1 }
  rw [show erS { S with deep := S.deep + 1 } = { erS S with deep := (erS S).deep + 1 } from rfl] at this
  rw [this]
  cases rn { S with deep := S.deep + 1 } with
  | none => rfl
  | some p => rfl
 ·rw [if_pos (by simpa [erS_e] using he), if_pos (by simpa using he)]; rfl
theorem round_er {rn rn' : PS → Option (Nd × PS)} (h : ∀ s, rn' (erS s) = erP (rn s)) (s : PS) : roundR (erT T) rn' (erS s) = erP (roundR T rn s) := by
 simp only [roundR, must_er]
 rw [in_er h]
 cases inR T rn (mustS T [40] s) with
 | none => rfl
 | some p => simp only [erP, Option.map_some, must_er]
theorem whole_er {rn rn' : PS → Option (Nd × PS)} (h : ∀ s, rn' (erS s) = erP (rn s)) (s : PS) : wholeR (erT T) rn' (erS s) = erP (wholeR T rn s) := by
 simp only [wholeR]
 rw [show ({ erS s with flat := false } : PS) = erS { s with flat := false } from rfl, in_er h]
 cases inR T rn { s with flat := false } with
 | none => rfl
 | some p => rfl
theorem value_er {rn rn' : PS → Option (Nd × PS)} (h : ∀ s, rn' (erS s) = erP (rn s)) (s : PS) : valueR (erT T) rn' (erS s) = (valueR T rn s).map fun p => ((p.1.1, p.1.2.1, erN p.1.2.2), erS p.2) := by
 simp only [valueR, may_er, word_er, take_er, must_er, isW_er, look_er, fail_er, erS_deep]
 have : ∀ (c : Prop) [Decidable c] (a b : PS), (if c then erS a else erS b) = erS (if c then a else b) := by intro c _ a b; split <;> rfl
 rw [this, in_er h]
 cases inR T rn _ with
 | none => rfl
 | some p => rfl
theorem erP_some (p : Nd × PS) : erP (some p) = some (erN p.1, erS p.2) := rfl
theorem erP_ite (c : Prop) [Decidable c] (a b : Option (Nd × PS)) : erP (if c then a else b) = if c then erP a else erP b := by split <;> rfl
theorem erP_none : erP none = none := rfl
set_option maxHeartbeats 2000000 in
theorem run_er : ∀ (f : Nat) (fn : Fn) (s : PS), run (erT T) f (erF fn) (erS s) = erP (run T f fn s) := by
 intro f
 induction f with
 | zero => intro fn s; rfl
 | succ f ih =>
 have hty : ∀ s, run (erT T) f .tyapp (erS s) = erP (run T f .tyapp s) := ih .tyapp
 have hpa : ∀ s, run (erT T) f .pat (erS s) = erP (run T f .pat s) := ih .pat
 have hsa : ∀ (mul : Bool) s, run (erT T) f (if mul = true then .app else .sums true) (erS s) = erP (run T f (if mul = true then .app else .sums true) s) := fun mul s => by
  cases mul
  ·exact ih (.sums true) s
  ·exact ih .app s
 have hex : ∀ s, run (erT T) f .exp (erS s) = erP (run T f .exp s) := ih .exp
 intro fn s
 cases fn <;> simp only [erF]
 case tyapp =>
  simp only [erP_ite, run_tyapp, word_er, take_er, look_er]
  rw [← ih]; rfl
 case tyLoop n =>
  simp only [erP_ite, run_tyLoop, isW_er, take_er, look_er]
  refine ite_congr rfl (fun _ => ?_) fun _ => ?_
  ·rw [← ih]; simp only [erF, erN_add]; rfl
  ·refine ite_congr rfl (fun _ => ?_) fun _ => ?_
   ·rw [round_er hty]
    cases roundR T (run T f .tyapp) s with
    | none => rfl
    | some p => simp only [erP_some, erP_ite, ← ih, erF, erN_add]; rfl
   ·rfl
 case con =>
  simp only [erP_ite, run_con, isW_er, take_er, look_er, word_er, may_er]
  refine ite_congr rfl (fun _ => ?_) fun _ => ?_
  ·rw [← ih]; rfl
  ·rfl
 case conLoop n more =>
  simp only [erP_ite, run_conLoop, isW_er, may_er, most_er, erN_ks, erL_len, erS_e]
  refine ite_congr rfl (fun _ => ?_) fun _ => ?_
  ·rw [in_er hty]
   cases inR T (run T f .tyapp) _ with
   | none => rfl
   | some p => simp only [erP_some, erP_ite, isW_er, may_er, ← ih, erF, erN_add]; rfl
  ·rfl
 case decltype =>
  simp only [erP_ite, run_decltype, take_er, look_er, word_er]
  have := ih (.namesLoop (node 25 (look T s).2 (look T (wordS T 3 (takeS T s))).1.t [])) (takeS T (wordS T 3 (takeS T s)))
  simp only [erF] at this
  rw [show node 25 (0 : Nat) (look T (wordS T 3 (takeS T s))).1.t [] = erN (node 25 (look T s).2 (look T (wordS T 3 (takeS T s))).1.t []) from rfl, this]
  cases run T f (.namesLoop (node 25 (look T s).2 (look T (wordS T 3 (takeS T s))).1.t [])) (takeS T (wordS T 3 (takeS T s))) with
  | none => rfl
  | some p => simp only [erP_some, erP_ite, must_er, ← ih, erF]
 case namesLoop n =>
  simp only [erP_ite, run_namesLoop, take_er, look_er, most_er, erN_ns]
  refine ite_congr rfl (fun _ => ?_) fun _ => ?_
  ·rw [← ih]; simp only [erF, erN_name]
  ·rfl
 case consLoop n more =>
  simp only [erP_ite, run_consLoop, most_er, erN_ks, erL_len, erS_e]
  refine ite_congr rfl (fun _ => ?_) fun _ => ?_
  ·rw [show run (erT T) f .con _ = _ from ih .con _]
   cases run T f .con _ with
   | none => rfl
   | some p => simp only [erP_some, erP_ite, isW_er, may_er, ← ih, erF, erN_add]; rfl
  ·rfl
 case decl =>
  simp only [erP_ite, run_decl, isW_er, take_er, look_er]
  refine ite_congr rfl (fun _ => ?_) fun _ => ?_
  ·rw [show run (erT T) f .decltype _ = _ from ih .decltype _]
   cases run T f .decltype _ with
   | none => rfl
   | some p => simp only [erP_some, erP_ite, must_er]
  ·rw [show ({ erS (takeS T s) with flat := true } : PS) = erS { takeS T s with flat := true } from rfl, value_er hex]
   cases valueR T (run T f .exp) _ with
   | none => rfl
   | some p =>
    obtain ⟨⟨nm, rc, v⟩, s2⟩ := p
    simp only [Option.map_some, erP_some, ← must_er]; rfl
 case letE =>
  simp only [erP_ite, run_letE, take_er, look_er]
  rw [value_er hex]
  cases valueR T (run T f .exp) _ with
  | none => rfl
  | some p =>
   obtain ⟨⟨nm, rc, v⟩, s2⟩ := p
   simp only [Option.map_some, must_er]
   rw [in_er hex]
   cases inR T (run T f .exp) _ with
   | none => rfl
   | some p => rfl
 case funE =>
  simp only [erP_ite, run_funE, take_er, look_er, word_er, must_er]
  rw [in_er hex]
  cases inR T (run T f .exp) _ with
  | none => rfl
  | some p => rfl
 case branch =>
  simp only [erP_ite, run_branch, take_er, look_er]
  rw [in_er hex]
  cases inR T (run T f .exp) _ with
  | none => rfl
  | some p =>
   simp only [erP_some, erP_ite, must_er]
   rw [in_er hex]
   cases inR T (run T f .exp) _ with
   | none => rfl
   | some p =>
    simp only [erP_some, erP_ite, must_er]
    rw [in_er hex]
    cases inR T (run T f .exp) _ with
    | none => rfl
    | some p => rfl
 case exp =>
  simp only [erP_ite, run_exp, look_er]
  refine ite_congr rfl (fun _ => ?_) fun _ => ?_
  ·exact ih .letE s
  refine ite_congr rfl (fun _ => ?_) fun _ => ?_
  ·exact ih .funE s
  refine ite_congr rfl (fun _ => ?_) fun _ => ?_
  ·exact ih .branch s
  rw [show run (erT T) f .cmp _ = _ from ih .cmp _]
  cases run T f .cmp _ with
  | none => rfl
  | some p =>
   simp only [erP_some, erP_ite, erS_flat, isW_er, may_er]
   refine ite_congr rfl (fun _ => ?_) fun _ => ?_
   ·rw [in_er hex]
    cases inR T (run T f .exp) _ with
    | none => rfl
    | some p => simp only [erP_some, erP_ite, erN_node, erN_a, erL]
   ·rfl
 case cmp =>
  simp only [erP_ite, run_cmp]
  rw [show run (erT T) f (.sums false) _ = _ from ih (.sums false) _]
  cases run T f (.sums false) s with
  | none => rfl
  | some p =>
   simp only [erP_some, erP_ite, isW_er, look_er, take_er]
   refine ite_congr rfl (fun _ => ?_) fun _ => ?_
   ·rw [show run (erT T) f (.sums false) _ = _ from ih (.sums false) _]
    cases run T f (.sums false) _ with
    | none => rfl
    | some p => simp only [erP_some, erP_ite, erN_node, erN_a, erL]
   ·rfl
 case sums mul =>
  simp only [erP_ite, run_sums]
  rw [hsa]
  cases run T f (if mul = true then .app else .sums true) _ with
  | none => rfl
  | some p => simp only [erP_some, erP_ite, ← ih, erF]
 case sumLoop mul n =>
  simp only [erP_ite, run_sumLoop, look_er, take_er]
  refine ite_congr rfl (fun _ => ?_) fun _ => ?_
  ·rw [hsa]
   cases run T f (if mul = true then .app else .sums true) _ with
   | none => rfl
   | some p => simp only [erP_some, erP_ite, ← ih, erF, erN_node, erN_a, erL]
  ·rfl
 case app =>
  simp only [erP_ite, run_app, look_er, take_er]
  refine ite_congr rfl (fun _ => ?_) fun _ => ?_
  ·rw [← ih]; rfl
  ·rw [show run (erT T) f .atom _ = _ from ih .atom _]
   cases run T f .atom _ with
   | none => rfl
   | some p => simp only [erP_some, erP_ite, ← ih, erF]
 case kidsLoop n many =>
  simp only [erP_ite, run_kidsLoop]
  cases many with
  | zero => rfl
  | succ many =>
   simp only
   rw [show run (erT T) f .atom _ = _ from ih .atom _]
   cases run T f .atom _ with
   | none => rfl
   | some p => simp only [erP_some, erP_ite, ← ih, erF, erN_add]; rfl
 case appLoop bare n =>
  simp only [erP_ite, run_appLoop, begins_er, most_er, erN_ks, erL_len]
  refine ite_congr rfl (fun _ => ?_) fun _ => ?_
  ·refine ite_congr rfl (fun _ => ?_) fun _ => ?_
   ·rw [show run (erT T) f .atom _ = _ from ih .atom _]
    cases run T f .atom _ with
    | none => rfl
    | some p => simp only [erP_some, erP_ite, ← ih, erF, erN_add]; rfl
   ·rw [show run (erT T) f .atom _ = _ from ih .atom _]
    cases run T f .atom _ with
    | none => rfl
    | some p => simp only [erP_some, erP_ite, ← ih, erF, erN_node, erN_a, erL]
  ·rfl
 case matchE =>
  simp only [erP_ite, run_matchE, look_er, take_er]
  rw [whole_er hex]
  cases wholeR T (run T f .exp) _ with
  | none => rfl
  | some p =>
   simp only [erP_some, erP_ite, must_er]
   have := ih (.matchLoop (node 11 (look T s).2 [] [p.1]) true) (mustS T wWith p.2)
   simp only [erF] at this
   rw [show node 11 (0 : Nat) [] [erN p.1] = erN (node 11 (look T s).2 [] [p.1]) from rfl, this]
   cases run T f (.matchLoop (node 11 (look T s).2 [] [p.1]) true) (mustS T wWith p.2) with
   | none => rfl
   | some p => simp only [erP_some, erP_ite, must_er]
 case matchLoop n first =>
  simp only [erP_ite, run_matchLoop, isW_er, most_er, must_er, erN_ks, erL_len]
  refine ite_congr rfl (fun _ => ?_) fun _ => ?_
  ·rw [in_er hpa]
   cases inR T (run T f .pat) _ with
   | none => rfl
   | some p =>
    simp only [erP_some, erP_ite, must_er]
    rw [whole_er hex]
    cases wholeR T (run T f .exp) _ with
    | none => rfl
    | some p => simp only [erP_some, erP_ite, ← ih, erF, erN_add]; rfl
  ·rfl
 case tryE =>
  simp only [erP_ite, run_tryE, look_er, take_er]
  rw [whole_er hex]
  cases wholeR T (run T f .exp) _ with
  | none => rfl
  | some p =>
   simp only [erP_some, erP_ite, must_er, word_er, take_er, look_er]
   rw [whole_er hex]
   cases wholeR T (run T f .exp) _ with
   | none => rfl
   | some p => simp only [erP_some, erP_ite, must_er]; rfl
 case atom =>
  simp only [erP_ite, run_atom, look_er, take_er, isW_er, may_er]
  refine ite_congr rfl (fun _ => ?_) fun _ => ?_
  ·exact ih .matchE s
  refine ite_congr rfl (fun _ => ?_) fun _ => ?_
  ·exact ih .tryE s
  refine ite_congr rfl (fun _ => ?_) fun _ => ?_
  ·rfl
  refine ite_congr rfl (fun _ => ?_) fun _ => ?_
  ·refine ite_congr rfl (fun _ => ?_) fun _ => ?_
   ·rfl
   ·rw [whole_er hex]
    cases wholeR T (run T f .exp) _ with
    | none => rfl
    | some p => simp only [erP_some, erP_ite, must_er]
  ·rw [leaf_er]; rfl
 case pat =>
  simp only [erP_ite, run_pat, look_er]
  rw [show run (erT T) f .patom _ = _ from ih .patom _]
  cases run T f .patom _ with
  | none => rfl
  | some p => simp only [erP_some, erP_ite, ← ih, erF]
 case patLoop c n =>
  simp only [erP_ite, run_patLoop, patMore_er, most_er, erN_ks, erL_len]
  refine ite_congr rfl (fun _ => ?_) fun _ => ?_
  ·rw [show run (erT T) f .patom _ = _ from ih .patom _]
   cases run T f .patom _ with
   | none => rfl
   | some p => simp only [erP_some, erP_ite, ← ih, erF, erN_add]; rfl
  ·rfl
 case patom =>
  simp only [erP_ite, run_patom, look_er, isW_er, may_er]
  refine ite_congr rfl (fun _ => ?_) fun _ => ?_
  ·rfl
  refine ite_congr rfl (fun _ => ?_) fun _ => ?_
  ·exact round_er hpa s
  ·rw [leaf_er]; rfl
 case program =>
  simp only [erP_ite, run_program, look_er]
  have := ih (.declLoop (node 30 (look T s).2 [] [])) s
  simp only [erF] at this
  rw [show node 30 (0 : Nat) [] [] = erN (node 30 (look T s).2 [] []) from rfl, this]
  cases run T f (.declLoop (node 30 (look T s).2 [] [])) s with
  | none => rfl
  | some p =>
   simp only [erP_some, erP_ite, must_er]
   rw [in_er hex]
   cases inR T (run T f .exp) _ with
   | none => rfl
   | some q =>
    simp only [erP_some, erP_ite, look_er, fail_er]
    rw [erN_add]
    simp only [ne_eq, ite_not]
    by_cases hk : (look T q.2).1.k = 0
    ·rw [if_pos hk, if_pos hk]; rfl
    ·rw [if_neg hk, if_neg hk]; rfl
 case declLoop n =>
  simp only [erP_ite, run_declLoop, isW_er, most_er, erN_ks, erL_len]
  refine ite_congr rfl (fun _ => ?_) fun _ => ?_
  ·rw [show run (erT T) f .decl _ = _ from ih .decl _]
   cases run T f .decl _ with
   | none => rfl
   | some p => simp only [erP_some, erP_ite, ← ih, erF, erN_add]; rfl
  ·rfl
end
/-- No row is so long that a count of it turns over. -/
inductive Wd : Nd → Prop
 | mk {k : Int} {t : List UInt8} {n a : Int} {ns : List (List UInt8)} {ks : List Nd} : ns.length ≤ 1000000 → ks.length ≤ 1000000 → (∀ x ∈ ks, Wd x) → Wd (.mk k t n a ns ks)
theorem Wd.zero : Wd nd0 := .mk (by decide) (by decide) (fun x h => by cases h)
theorem kid_size {k : Int} {t : List UInt8} {n a : Int} {ns : List (List UInt8)} {ks : List Nd} {i : Nat} {x : Nd} (h : ks[i]? = some x) : SizeOf.sizeOf x < SizeOf.sizeOf (Nd.mk k t n a ns ks) := by
 have := List.sizeOf_lt_of_mem (List.mem_of_getElem? h)
 simp only [Nd.mk.sizeOf_spec]; omega
theorem erL_get (l : List Nd) (i : Nat) : (erL l)[i]? = l[i]?.map erN := by rw [erL_map, List.getElem?_map]
theorem erL_ne {ks ls : List Nd} {i : Nat} {x y : Nd} (h : ks[i]? = some x) (h' : ls[i]? = some y) (hn : erN x ≠ erN y) : erL ks ≠ erL ls := by
 intro e
 have := congrArg (·[i]?) e
 simp only [erL_get, h, h', Option.map_some, Option.some.injEq] at this
 exact hn this
theorem erL_all {ks ls : List Nd} (hl : ks.length = ls.length) (h : ∀ (i : Nat) (x y : Nd), ks[i]? = some x → ls[i]? = some y → erN x = erN y) : erL ks = erL ls := by
 apply List.ext_getElem?
 intro i
 rw [erL_get, erL_get]
 rcases Nat.lt_or_ge i ks.length with hi | hi
 ·have h1 := List.getElem?_eq_getElem hi
  have h2 := List.getElem?_eq_getElem (show i < ls.length by omega)
  rw [h1, h2]
  exact congrArg some (h i _ _ h1 h2)
 ·rw [List.getElem?_eq_none hi, List.getElem?_eq_none (by omega)]
theorem erN_eq {x y : Nd} : erN x = erN y ↔ x.k = y.k ∧ x.t = y.t ∧ x.n = y.n ∧ x.ns = y.ns ∧ erL x.ks = erL y.ks := by
 obtain ⟨k, t, n, a, ns, ks⟩ := x
 obtain ⟨k', t', n', a', ns', ks'⟩ := y
 simp only [erN, Nd.mk.injEq, Nd.k, Nd.t, Nd.n, Nd.ns, Nd.ks, true_and]
/-- An answer of a function that keeps all that there was. -/
def BK (h : Hp) (c : Nat) (d : List (Nat × List AV)) (q : Prop) : AV → ASt → Prop := fun r st => ∃ b, r = .bool b ∧ (b = true ↔ q) ∧ ∃ h' c', st = ⟨h', c', d⟩ ∧ Fr h c h' c' []
set_option maxHeartbeats 8000000 in
theorem refSame_call : ∀ (m : Nat) (x y : Nd) (v w : AV) (h : Hp) (c : Nat) (d : List (Nat × List AV)), SizeOf.sizeOf x ≤ m → Wd x → NR x v → NR y w → Does X 12 [v, w, .bool false] ⟨h, c, d⟩ (BK h c d (erN x = erN y)) := by
 intro m
 induction m with
 | zero => intro x y v w h c d hm; obtain ⟨k, t, n, a, ns, ks⟩ := x; simp only [Nd.mk.sizeOf_spec] at hm; omega
 | succ m ih =>
 intro x y v w h c d hm hw hv hy
 obtain ⟨o1, o2, es, rfl, E1⟩ := hv.inv
 obtain ⟨o3, o4, fs, rfl, E2⟩ := hy.inv
 have hkid : ∀ (i : Nat) (z : Nd), x.ks[i]? = some z → SizeOf.sizeOf z ≤ m ∧ Wd z := by
  intro i z hz
  obtain ⟨k, t, n, a, ns, ks⟩ := x
  have := kid_size (k := k) (t := t) (n := n) (a := a) (ns := ns) (show ks[i]? = some z from hz)
  cases hw with
  | mk _ _ hk => exact ⟨by omega, hk z (List.mem_of_getElem? hz)⟩
 have hwl : x.ns.length ≤ 1000000 ∧ x.ks.length ≤ 1000000 := by cases hw with | mk h1 h2 _ => exact ⟨h1, h2⟩
 have l1 := E1.1
 have l2 := E2.1
 refine call_aw b12 rfl rfl rfl ?_; delta b12
 have u0 : ∀ h x, upd h (c + 1) x c = h c := fun h x => upd_ne h x (by omega)
 have u1 : ∀ h x, upd h c x (c + 1) = h (c + 1) := fun h x => upd_ne h x (by omega)
 obtain ⟨H, hH⟩ : ∃ H, H = upd (upd h c (.cells [.int .i64 x.k, .str x.t, .int .i64 x.n, .int .i64 x.a, .slice o1 (x.ns.map AV.str), .slice o2 es])) (c + 1) (.cells [.int .i64 y.k, .str y.t, .int .i64 y.n, .int .i64 y.a, .slice o3 (y.ns.map AV.str), .slice o4 fs]) := ⟨_, rfl⟩
 have Z0 : H c = some (.cells [.int .i64 x.k, .str x.t, .int .i64 x.n, .int .i64 x.a, .slice o1 (x.ns.map AV.str), .slice o2 es]) := by rw [hH, u0, upd_same]
 have Z1 : H (c + 1) = some (.cells [.int .i64 y.k, .str y.t, .int .i64 y.n, .int .i64 y.a, .slice o3 (y.ns.map AV.str), .slice o4 fs]) := by rw [hH, upd_same]
 have HF : Fr h c H (c + 2) [] := by rw [hH]; exact ((Fr.refl h c []).upd _ (.inr (Nat.le_refl _)) (Nat.le_refl _)).upd _ (.inr (Nat.le_succ _)) (by omega)
 have fin : erN x ≠ erN y → ∀ (H' : Hp) (C' : Nat), Fr h c H' C' [] → BK h c d (erN x = erN y) (.bool false) ⟨H', C', d⟩ := fun hn H' C' hF => ⟨false, rfl, ⟨fun e => Bool.noConfusion e, fun e => absurd e hn⟩, H', C', rfl, hF⟩
 cases h1 : decide (¬ x.k = y.k)
 case true =>
  simp -dsimp -implicitDefEqProofs only [go_sem, Nat.reduceAdd, Nat.reduceEqDiff, reduceIte, reduceCtorEq, Nat.reduceLeDiff, Nat.reduceLT, Nat.reduceSub, Int.reduceEq, Int.reduceLT, preH, boxV]
  rw [← hH]
  simp -dsimp -implicitDefEqProofs only [go_sem, Nat.reduceAdd, Nat.reduceEqDiff, reduceIte, reduceCtorEq, Nat.reduceLeDiff, Nat.reduceLT, Nat.reduceSub, Int.reduceEq, Int.reduceLT, Z0, Z1, ldCells, h1]
  exact fin (fun e => by simp [(erN_eq.1 e).1] at h1) _ _ HF
 cases h2 : decide (¬ x.t = y.t)
 case true =>
  simp -dsimp -implicitDefEqProofs only [go_sem, Nat.reduceAdd, Nat.reduceEqDiff, reduceIte, reduceCtorEq, Nat.reduceLeDiff, Nat.reduceLT, Nat.reduceSub, Int.reduceEq, Int.reduceLT, preH, boxV]
  rw [← hH]
  simp -dsimp -implicitDefEqProofs only [go_sem, Nat.reduceAdd, Nat.reduceEqDiff, reduceIte, reduceCtorEq, Nat.reduceLeDiff, Nat.reduceLT, Nat.reduceSub, Int.reduceEq, Int.reduceLT, Z0, Z1, ldCells, h1, h2]
  exact fin (fun e => by simp [(erN_eq.1 e).2.1] at h2) _ _ HF
 cases h3 : decide (¬ x.n = y.n)
 case true =>
  simp -dsimp -implicitDefEqProofs only [go_sem, Nat.reduceAdd, Nat.reduceEqDiff, reduceIte, reduceCtorEq, Nat.reduceLeDiff, Nat.reduceLT, Nat.reduceSub, Int.reduceEq, Int.reduceLT, preH, boxV]
  rw [← hH]
  simp -dsimp -implicitDefEqProofs only [go_sem, Nat.reduceAdd, Nat.reduceEqDiff, reduceIte, reduceCtorEq, Nat.reduceLeDiff, Nat.reduceLT, Nat.reduceSub, Int.reduceEq, Int.reduceLT, Z0, Z1, ldCells, h1, h2, h3]
  exact fin (fun e => by simp [(erN_eq.1 e).2.2.1] at h3) _ _ HF
 cases h4 : decide (¬ ((x.ns.length : Nat) : Int) = ((y.ns.length : Nat) : Int))
 case true =>
  simp -dsimp -implicitDefEqProofs only [go_sem, Nat.reduceAdd, Nat.reduceEqDiff, reduceIte, reduceCtorEq, Nat.reduceLeDiff, Nat.reduceLT, Nat.reduceSub, Int.reduceEq, Int.reduceLT, preH, boxV]
  rw [← hH]
  simp -dsimp -implicitDefEqProofs only [go_sem, Nat.reduceAdd, Nat.reduceEqDiff, reduceIte, reduceCtorEq, Nat.reduceLeDiff, Nat.reduceLT, Nat.reduceSub, Int.reduceEq, Int.reduceLT, Z0, Z1, ldCells, h1, h2, h3, h4, List.length_map]
  exact fin (fun e => by rw [(erN_eq.1 e).2.2.2.1] at h4; simp at h4) _ _ HF
 cases h5 : decide (¬ ((x.ks.length : Nat) : Int) = ((y.ks.length : Nat) : Int))
 case true =>
  simp -dsimp -implicitDefEqProofs only [go_sem, Nat.reduceAdd, Nat.reduceEqDiff, reduceIte, reduceCtorEq, Nat.reduceLeDiff, Nat.reduceLT, Nat.reduceSub, Int.reduceEq, Int.reduceLT, preH, boxV]
  rw [← hH]
  simp -dsimp -implicitDefEqProofs only [go_sem, Nat.reduceAdd, Nat.reduceEqDiff, reduceIte, reduceCtorEq, Nat.reduceLeDiff, Nat.reduceLT, Nat.reduceSub, Int.reduceEq, Int.reduceLT, Z0, Z1, ldCells, h1, h2, h3, h4, l1, l2, h5, List.length_map]
  exact fin (fun e => by have := congrArg List.length (erN_eq.1 e).2.2.2.2; simp only [erL_len] at this; simp at h5; exact h5 (by omega)) _ _ HF
 simp -dsimp -implicitDefEqProofs only [go_sem, Nat.reduceAdd, Nat.reduceEqDiff, reduceIte, reduceCtorEq, Nat.reduceLeDiff, Nat.reduceLT, Nat.reduceSub, Int.reduceEq, Int.reduceLT, preH, boxV]
 rw [← hH]
 clear hH
 simp -dsimp -implicitDefEqProofs only [go_sem, Nat.reduceAdd, Nat.reduceEqDiff, reduceIte, reduceCtorEq, Nat.reduceLeDiff, Nat.reduceLT, Nat.reduceSub, Int.reduceEq, Int.reduceLT, Z0, Z1, ldCells, h1, h2, h3, h4, l1, l2, h5, List.length_map]
 have e1 : x.k = y.k := by simpa using h1
 have e2 : x.t = y.t := by simpa using h2
 have e3 : x.n = y.n := by simpa using h3
 have e4 : x.ns.length = y.ns.length := by simp at h4; omega
 have e5 : x.ks.length = y.ks.length := by simp at h5; omega
 let I : Nat → AEnv → ASt → Prop := fun q e st => ∃ (j : Nat), q = x.ns.length - j ∧ j ≤ x.ns.length ∧ (∀ i, i < j → x.ns[i]? = y.ns[i]?) ∧ e.get 2 = .bool false ∧ e.get 3 = .ptr c 0 ∧ e.get 4 = .ptr (c + 1) 0 ∧ e.get 7 = .int .i64 (j : Int) ∧ st = ⟨H, c + 2, []⟩
 refine LoopK_rule I (x.ns.length) ⟨0, rfl, Nat.zero_le _, fun i hi => by omega, rfl, rfl, rfl, rfl, rfl⟩ ?_
 rintro q e st ⟨j, rfl, hj, hpre, g2, g3, g4, g7, rfl⟩
 simp -dsimp -implicitDefEqProofs only [go_sem, Nat.reduceAdd, Nat.reduceEqDiff, reduceIte, reduceCtorEq, Nat.reduceLeDiff, Nat.reduceLT, Nat.reduceSub, Int.reduceEq, Int.reduceLT, g3, g4, g7, Z0, Z1, ldCells, List.length_map]
 refine CondV_split (fun hc => ?_) fun hc => ?_
 ·have hj' : j < x.ns.length := by simp at hc; omega
  have q1 := List.getElem?_eq_getElem hj'
  have q2 := List.getElem?_eq_getElem (show j < y.ns.length by omega)
  generalize x.ns[j] = t1 at q1
  generalize y.ns[j] = t2 at q2
  have r1 : (x.ns.map AV.str)[j]? = some (.str t1) := by rw [List.getElem?_map, q1]; rfl
  have r2 : (y.ns.map AV.str)[j]? = some (.str t2) := by rw [List.getElem?_map, q2]; rfl
  have w3 : IntKind.wrap .i64 ((j : Int) + 1) = ((j + 1 : Nat) : Int) := by rw [wrap_i64 (by omega) (by omega)]; rfl
  cases ht : decide (¬ t1 = t2)
  ·have ht' : t1 = t2 := by simpa using ht
   simp -dsimp -implicitDefEqProofs only [go_sem, Nat.reduceAdd, Nat.reduceEqDiff, reduceIte, reduceCtorEq, Nat.reduceLeDiff, Nat.reduceLT, Nat.reduceSub, Int.reduceEq, Int.reduceLT, g2, g3, g4, g7, Z0, Z1, ldCells, r1, r2, elemA, ht, w3]
   refine Again.of (x.ns.length - (j + 1)) (by omega) ⟨j + 1, rfl, hj', fun i hi => ?_, g2, g3, g4, rfl, rfl⟩
   rcases Nat.lt_or_ge i j with h' | h'
   ·exact hpre i h'
   ·rw [show i = j by omega, q1, q2, ht']
  ·have ht' : ¬ t1 = t2 := by simpa using ht
   simp -dsimp -implicitDefEqProofs only [go_sem, Nat.reduceAdd, Nat.reduceEqDiff, reduceIte, reduceCtorEq, Nat.reduceLeDiff, Nat.reduceLT, Nat.reduceSub, Int.reduceEq, Int.reduceLT, g2, g3, g4, g7, Z0, Z1, ldCells, r1, r2, elemA, ht]
   refine fin (fun e => ?_) _ _ HF
   rw [(erN_eq.1 e).2.2.2.1, q2] at q1
   exact ht' (by injection q1 with q1; exact q1.symm)
 have e6 : x.ns = y.ns := by
  apply List.ext_getElem?
  intro i
  rcases Nat.lt_or_ge i x.ns.length with hi | hi
  ·exact hpre i (by simp at hc; omega)
  ·rw [List.getElem?_eq_none hi, List.getElem?_eq_none (by omega)]
 simp -dsimp -implicitDefEqProofs only [go_sem, Nat.reduceAdd, Nat.reduceEqDiff, reduceIte, reduceCtorEq, Nat.reduceLeDiff, Nat.reduceLT, Nat.reduceSub, Int.reduceEq, Int.reduceLT, CondV_false]
 let J : Nat → AEnv → ASt → Prop := fun q e st => ∃ (j : Nat) (H' : Hp) (C' : Nat), q = x.ks.length - j ∧ j ≤ x.ks.length ∧ (∀ i x' y', i < j → x.ks[i]? = some x' → y.ks[i]? = some y' → erN x' = erN y') ∧ Fr H (c + 2) H' C' [] ∧ e.get 2 = .bool false ∧ e.get 3 = .ptr c 0 ∧ e.get 4 = .ptr (c + 1) 0 ∧ e.get 8 = .int .i64 (j : Int) ∧ st = ⟨H', C', []⟩
 refine LoopK_rule J (x.ks.length) ⟨0, H, c + 2, rfl, Nat.zero_le _, fun i _ _ hi => by omega, Fr.refl _ _ _, g2, g3, g4, rfl, rfl⟩ ?_
 clear g2 g3 g4 g7 hc hpre hj
 rintro q e st ⟨j, H', C', rfl, hj, hpre, HF', g2, g3, g4, g8, rfl⟩
 have Z0' := (HF'.at (by omega) (by simp)).trans Z0
 have Z1' := (HF'.at (by omega) (by simp)).trans Z1
 have hCC := HF'.le
 simp -dsimp -implicitDefEqProofs only [go_sem, Nat.reduceAdd, Nat.reduceEqDiff, reduceIte, reduceCtorEq, Nat.reduceLeDiff, Nat.reduceLT, Nat.reduceSub, Int.reduceEq, Int.reduceLT, g2, g3, g4, g8, Z0', Z1', ldCells, l1]
 refine CondV_split (fun hc => ?_) fun hc => ?_
 ·have hj' : j < x.ks.length := by simp at hc; omega
  have q1 := List.getElem?_eq_getElem hj'
  have q2 := List.getElem?_eq_getElem (show j < y.ks.length by omega)
  generalize x.ks[j] = x1 at q1
  generalize y.ks[j] = y1 at q2
  have r1 := List.getElem?_eq_getElem (show j < es.length by omega)
  have r2 := List.getElem?_eq_getElem (show j < fs.length by omega)
  have n1 := E1.2 _ _ _ q1 r1
  have n2 := E2.2 _ _ _ q2 r2
  generalize es[j] = v1 at r1 n1
  generalize fs[j] = v2 at r2 n2
  obtain ⟨p1, p2, p3, rfl, _⟩ := n1.inv
  obtain ⟨p4, p5, p6, rfl, _⟩ := n2.inv
  have w3 : IntKind.wrap .i64 ((j : Int) + 1) = ((j + 1 : Nat) : Int) := by rw [wrap_i64 (by omega) (by omega)]; rfl
  simp -dsimp -implicitDefEqProofs only [go_sem, Nat.reduceAdd, Nat.reduceEqDiff, reduceIte, reduceCtorEq, Nat.reduceLeDiff, Nat.reduceLT, Nat.reduceSub, Int.reduceEq, Int.reduceLT, g2, g3, g4, g8, Z0', Z1', ldCells, r1, r2, elemA]
  refine DoesK_of (ih _ _ _ _ _ _ _ (hkid _ _ q1).1 (hkid _ _ q1).2 n1 n2) ?_
  rintro r st ⟨b, rfl, hb, H2, C2, rfl, f2⟩
  have HF2 := HF'.trans f2 (by simp)
  cases b
  ·simp -dsimp -implicitDefEqProofs only [go_sem, Nat.reduceAdd, Nat.reduceEqDiff, reduceIte, reduceCtorEq, Nat.reduceLeDiff, Nat.reduceLT, Nat.reduceSub, Int.reduceEq, Int.reduceLT]
   refine fin (fun e => ?_) _ _ (HF.trans HF2 (by simp))
   exact erL_ne q1 q2 (fun e' => by have := hb.2 e'; cases this) (erN_eq.1 e).2.2.2.2
  ·simp -dsimp -implicitDefEqProofs only [go_sem, Nat.reduceAdd, Nat.reduceEqDiff, reduceIte, reduceCtorEq, Nat.reduceLeDiff, Nat.reduceLT, Nat.reduceSub, Int.reduceEq, Int.reduceLT, g8, w3]
   refine Again.of (x.ks.length - (j + 1)) (by omega) ⟨j + 1, H2, C2, rfl, hj', fun i x' y' hi h1 h2 => ?_, HF2, g2, g3, g4, rfl, rfl⟩
   rcases Nat.lt_or_ge i j with h' | h'
   ·exact hpre i x' y' h' h1 h2
   ·rw [show i = j by omega] at h1 h2
    rw [q1] at h1; rw [q2] at h2
    cases h1; cases h2
    exact hb.1 rfl
 ·simp -dsimp -implicitDefEqProofs only [go_sem, Nat.reduceAdd, Nat.reduceEqDiff, reduceIte, reduceCtorEq, Nat.reduceLeDiff, Nat.reduceLT, Nat.reduceSub, Int.reduceEq, Int.reduceLT]
  refine ⟨true, rfl, ⟨fun _ => erN_eq.2 ⟨e1, e2, e3, e6, erL_all e5 fun i x' y' h1 h2 => ?_⟩, fun _ => rfl⟩, _, _, rfl, HF.trans HF' (by simp)⟩
  refine hpre i x' y' ?_ h1 h2
  have : i < x.ks.length := by
   rcases Nat.lt_or_ge i x.ks.length with h' | h'
   ·exact h'
   ·rw [List.getElem?_eq_none h'] at h1; cases h1
  simp at hc; omega
theorem NRs.inv1 {x : Nd} {es : List AV} (h : NRs [x] es) : ∃ v, es = [v] ∧ NR x v := by
 obtain ⟨h1, h2⟩ := h
 match es, h1 with
 | [v], _ => exact ⟨v, rfl, h2 0 _ _ rfl rfl⟩
theorem NRs.inv2 {x y : Nd} {es : List AV} (h : NRs [x, y] es) : ∃ v w, es = [v, w] ∧ NR x v ∧ NR y w := by
 obtain ⟨h1, h2⟩ := h
 match es, h1 with
 | [v, w], _ => exact ⟨v, w, rfl, h2 0 _ _ rfl rfl, h2 1 _ _ rfl rfl⟩
theorem NR.inv_mk {k : Int} {t : List UInt8} {n a : Int} {ns : List (List UInt8)} {ks : List Nd} {v : AV} (h : NR (.mk k t n a ns ks) v) : ∃ o o' es, v = .agg [.int .i64 k, .str t, .int .i64 n, .int .i64 a, .slice o (ns.map AV.str), .slice o' es] ∧ NRs ks es := h.inv
theorem few_call (s : List UInt8) (st : ASt) : Does X 8 [.str s] st fun v s' => v = .str (s.take 400) ∧ s' = st := by
 obtain ⟨h, c, d⟩ := st
 refine call_aw b8 rfl rfl rfl ?_; delta b8
 simp -dsimp -implicitDefEqProofs only [go_sem, Nat.reduceAdd, Nat.reduceEqDiff, reduceIte, reduceCtorEq, Nat.reduceLeDiff, Nat.reduceLT, Nat.reduceSub, Int.reduceEq, Int.reduceLT]
 refine CondV_split (fun hc => ?_) fun hc => ?_
 ·have hl : 400 ≤ s.length := by simp at hc; omega
  have hcut : cutStr none (some (.int .i64 400)) (.str s) = some (.str (s.take 400)) := by
   have := cut_hi .i64 400 s
   rw [if_pos hl] at this
   exact this
  simp -dsimp -implicitDefEqProofs only [go_sem, Nat.reduceAdd, Nat.reduceEqDiff, reduceIte, reduceCtorEq, Nat.reduceLeDiff, Nat.reduceLT, Nat.reduceSub, Int.reduceEq, Int.reduceLT, hcut]
 ·have hl : s.length ≤ 400 := by simp at hc; omega
  simp -dsimp -implicitDefEqProofs only [go_sem, Nat.reduceAdd, Nat.reduceEqDiff, reduceIte, reduceCtorEq, Nat.reduceLeDiff, Nat.reduceLT, Nat.reduceSub, Int.reduceEq, Int.reduceLT]
  rw [List.take_of_length_le hl]
/-- A number, turned to one that is none below nought. -/
def up (n : Int) : Int := if n < 0 then -(n + 1) else n
theorem up_nat {n : Int} (hn : -9223372036854775808 ≤ n ∧ n ≤ 9223372036854775807) : ∃ N : Nat, up n = (N : Int) ∧ N < 9223372036854775808 := by
 unfold up; split
 ·exact ⟨(-(n + 1)).toNat, by omega, by omega⟩
 ·exact ⟨n.toNat, by omega, by omega⟩
theorem pick_call (n : Int) (m : Nat) (hm : 0 < m) (hn : -9223372036854775808 ≤ n ∧ n ≤ 9223372036854775807) (st : ASt) : Does X 14 [.int .i64 n, .int .i64 (m : Int)] st fun v s' => (∃ i : Nat, i < m ∧ v = .int .i64 (i : Int)) ∧ s' = st := by
 obtain ⟨h, c, d⟩ := st
 refine call_aw b14 rfl rfl rfl ?_; delta b14
 have hm0 : ¬ (m : Int) = 0 := by omega
 simp -dsimp -implicitDefEqProofs only [go_sem, Nat.reduceAdd, Nat.reduceEqDiff, reduceIte, reduceCtorEq, Nat.reduceLeDiff, Nat.reduceLT, Nat.reduceSub, Int.reduceEq, Int.reduceLT]
 refine CondV_split (fun hc => ?_) fun hc => ?_
 ·have hc' : n < 0 := by simpa using hc
  obtain ⟨N, hN⟩ : ∃ N : Nat, (N : Int) = -(n + 1) := ⟨(-(n + 1)).toNat, by omega⟩
  have w1 : IntKind.wrap .i64 (n + 1) = n + 1 := wrap_i64 (by omega) (by omega)
  have w2 : IntKind.wrap .i64 (0 - (n + 1)) = (N : Int) := by rw [wrap_i64 (by omega) (by omega)]; omega
  simp -dsimp -implicitDefEqProofs only [go_sem, Nat.reduceAdd, Nat.reduceEqDiff, reduceIte, reduceCtorEq, Nat.reduceLeDiff, Nat.reduceLT, Nat.reduceSub, Int.reduceEq, Int.reduceLT, w1, w2, hm0]
  exact ⟨N % m, Nat.mod_lt _ hm, by rw [← Int.ofNat_tmod]⟩
 ·have hc' : ¬ n < 0 := by simpa using hc
  obtain ⟨N, hN⟩ : ∃ N : Nat, (N : Int) = n := ⟨n.toNat, by omega⟩
  subst hN
  simp -dsimp -implicitDefEqProofs only [go_sem, Nat.reduceAdd, Nat.reduceEqDiff, reduceIte, reduceCtorEq, Nat.reduceLeDiff, Nat.reduceLT, Nat.reduceSub, Int.reduceEq, Int.reduceLT, hm0]
  exact ⟨N % m, Nat.mod_lt _ hm, by rw [← Int.ofNat_tmod]⟩
theorem prog_1 : progR [100, 111, 32, 49, 32, 43, 32, 50, 32, 42, 32, 51] = (.mk 30 [] 0 0 [] [.mk 13 [43] 0 3 [] [.mk 1 [] 1 3 [] [], .mk 13 [42] 0 7 [] [.mk 1 [] 2 7 [] [], .mk 1 [] 3 11 [] []]]], 0, 0) := by kernel_rfl
theorem prog_2 : progR [100, 111, 32, 102, 32, 120, 32, 121] = (.mk 30 [] 0 0 [] [.mk 7 [] 0 3 [] [.mk 7 [] 0 3 [] [.mk 4 [102] 0 3 [] [], .mk 4 [120] 0 5 [] []], .mk 4 [121] 0 7 [] []]], 0, 0) := by kernel_rfl
theorem prog_3 : progR [100, 111, 32, 40] = (nd0, 4, 14) := by kernel_rfl
theorem prog_is {s : List UInt8} {n : Nd} {a e : Int} (hp : progR s = (n, a, e)) (h : Hp) (c : Nat) (d : List (Nat × List AV)) :
  Does X 11 [.str s] ⟨h, c, d⟩ fun v st => ∃ nv, v = .tuple [nv, .int .i64 a, .int .i64 e] ∧ NR n nv ∧ ∃ h' c', st = ⟨h', c', d⟩ ∧ Fr h c h' c' [] := by
 have := prog_call s h c d
 rw [hp] at this
 exact this
set_option maxHeartbeats 4000000 in
set_option maxRecDepth 100000 in
theorem lives_call (h : Hp) (c : Nat) (d : List (Nat × List AV)) : Does X 10 [] ⟨h, c, d⟩ fun v s' => v = .bool true ∧ ∃ h' c', s' = ⟨h', c', d⟩ ∧ Fr h c h' c' [] := by
 refine call_aw b10 rfl rfl rfl ?_; delta b10
 simp -dsimp -implicitDefEqProofs only [go_sem, Nat.reduceAdd, Nat.reduceEqDiff, reduceIte, reduceCtorEq, Nat.reduceLeDiff, Nat.reduceLT, Nat.reduceSub, Int.reduceEq, Int.reduceLT, preH]
 refine DoesK_of (prog_is prog_1 _ _ _) ?_
 rintro v st ⟨n1, rfl, N1, H1, C1, rfl, f1⟩
 obtain ⟨o1, o2, es1, rfl, E1⟩ := N1.inv_mk
 obtain ⟨w1, rfl, M1⟩ := NRs.inv1 E1
 obtain ⟨o3, o4, es2, rfl, E2⟩ := M1.inv_mk
 obtain ⟨w2, w3, rfl, M2, M3⟩ := NRs.inv2 E2
 obtain ⟨o5, o6, es3, rfl, E3⟩ := M2.inv_mk
 obtain ⟨o7, o8, es4, rfl, E4⟩ := M3.inv_mk
 have l1 := f1.le
 have Z1 : H1 c = some (.cells zeroN) := (f1.at (by omega) (by simp)).trans (upd_same _ _ _)
 have F1 : Fr h c H1 C1 [] := ((Fr.refl h c []).upd _ (.inr (Nat.le_refl _)) (Nat.le_succ _)).trans f1 (by simp)
 simp -dsimp -implicitDefEqProofs only [go_sem, Nat.reduceAdd, Nat.reduceEqDiff, reduceIte, reduceCtorEq, Nat.reduceLeDiff, Nat.reduceLT, Nat.reduceSub, Int.reduceEq, Int.reduceLT, preH, OpK_alloc, Z1, zeroN, ldCells]
 refine DoesK_of (prog_is prog_2 _ _ _) ?_
 rintro v st ⟨n2, rfl, N2, H2, C2, rfl, f2⟩
 obtain ⟨p1, p2, fs1, rfl, G1⟩ := N2.inv_mk
 obtain ⟨x1, rfl, K1⟩ := NRs.inv1 G1
 obtain ⟨p3, p4, fs2, rfl, G2⟩ := K1.inv_mk
 obtain ⟨x2, x3, rfl, K2, K3⟩ := NRs.inv2 G2
 obtain ⟨p5, p6, fs3, rfl, G3⟩ := K2.inv_mk
 obtain ⟨p7, p8, fs4, rfl, G4⟩ := K3.inv_mk
 have l2 := f2.le
 have Z2 := (f2.at (show c < C1 + 1 by omega) (by simp)).trans ((upd_ne _ _ (by omega)).trans (upd_same _ _ _))
 have Y2 : H2 C1 = some (.cells zeroN) := (f2.at (by omega) (by simp)).trans (upd_same _ _ _)
 have F2 : Fr h c H2 C2 [] := ((F1.upd _ (.inr (by omega)) (Nat.le_refl _)).upd _ (.inr (by omega)) (Nat.le_succ _)).trans f2 (by simp)
 simp -dsimp -implicitDefEqProofs only [go_sem, Nat.reduceAdd, Nat.reduceEqDiff, reduceIte, reduceCtorEq, Nat.reduceLeDiff, Nat.reduceLT, Nat.reduceSub, Int.reduceEq, Int.reduceLT, preH, OpK_alloc, Y2, zeroN, ldCells]
 refine DoesK_of (prog_is prog_3 _ _ _) ?_
 rintro v st ⟨n3, rfl, N3, H3, C3, rfl, f3⟩
 obtain ⟨q1, q2, gs1, rfl, _⟩ := N3.inv_mk
 have l3 := f3.le
 have Z3 := (f3.at (show c < C2 + 1 by omega) (by simp)).trans (((upd_ne _ _ (by omega)).trans (upd_ne _ _ (by omega))).trans Z2)
 have Y3 := (f3.at (show C1 < C2 + 1 by omega) (by simp)).trans ((upd_ne _ _ (by omega)).trans (upd_same _ _ _))
 have X3 : H3 C2 = some (.cells zeroN) := (f3.at (by omega) (by simp)).trans (upd_same _ _ _)
 have F3 : Fr h c H3 C3 [] := ((F2.upd _ (.inr (by omega)) (Nat.le_refl _)).upd _ (.inr (by omega)) (Nat.le_succ _)).trans f3 (by simp)
 have u1 : ∀ h x, upd h C2 x c = h c := fun h x => upd_ne h x (by omega)
 have u2 : ∀ h x, upd h C2 x C1 = h C1 := fun h x => upd_ne h x (by omega)
 have d1 : decide (¬ ((1 : Nat) : Int) = 1) = false := rfl
 have d2 : decide (¬ ((2 : Nat) : Int) = 2) = false := rfl
 have dI : ∀ n : Int, decide (n = n) = true := fun n => by simp
 have dS : ∀ n : List UInt8, decide (n = n) = true := fun n => by simp
 have b1 : (!true) = false := rfl
 have b2 : (!false) = true := rfl
 have x0 : ∀ (v : AV) (l : List AV), (v :: l)[0]? = some v := fun _ _ => rfl
 have x1 : ∀ (v w : AV) (l : List AV), (v :: w :: l)[1]? = some w := fun _ _ _ => rfl
 simp -dsimp -implicitDefEqProofs only [go_sem, Nat.reduceAdd, Nat.reduceEqDiff, reduceIte, reduceCtorEq, Nat.reduceLeDiff, Nat.reduceLT, Nat.reduceSub, Int.reduceEq, Int.reduceLT, preH, OpK_alloc, X3, Y3, Z3, u1, u2, zeroN, ldCells, d1, d2, dI, dS, b1, b2, elemA, idx_slice_0, idx_slice_1, x0, x1]
 exact ⟨_, _, rfl, F3.upd _ (.inr (by omega)) (Nat.le_refl _)⟩
/-- What is kept from one state to a later one. -/
structure Ok (T : List Tok) (s s' : PS) : Prop where
 inv : Inv T s → Inv T s'
 deep : s'.deep = s.deep
 at_ : s.at_ ≤ s'.at_
 st : s.e ≠ 0 → s'.at_ = s.at_ ∧ s'.bad = s.bad ∧ s'.e = s.e
section
variable {T : List Tok}
theorem Ok.refl (s : PS) : Ok T s s := ⟨id, rfl, Nat.le_refl _, fun _ => ⟨rfl, rfl, rfl⟩⟩
theorem Ok.trans {a b c : PS} (h : Ok T a b) (k : Ok T b c) : Ok T a c := ⟨fun i => k.inv (h.inv i), k.deep.trans h.deep, Nat.le_trans h.at_ k.at_, fun e => by
 obtain ⟨h1, h2, h3⟩ := h.st e
 obtain ⟨k1, k2, k3⟩ := k.st (by rw [h3]; exact e)
 exact ⟨k1.trans h1, k2.trans h2, k3.trans h3⟩⟩
theorem Ok.fail (c : Int) (s : PS) : Ok T s (fail T c s) := ⟨fun i => i.fail c, fail_deep _ _, by unfold Go.Proofs.YtdohdncgjendkaaDoor.fail; split <;> exact Nat.le_refl _, fun e => by unfold Go.Proofs.YtdohdncgjendkaaDoor.fail; rw [if_neg e]; exact ⟨rfl, rfl, rfl⟩⟩
theorem Ok.take (s : PS) : Ok T s (takeS T s) := ⟨fun i => i.take, take_deep _, by unfold takeS; split <;> simp, fun e => by unfold takeS; rw [if_neg (fun h => e h.1)]; exact ⟨rfl, rfl, rfl⟩⟩
theorem Ok.may (w : List UInt8) (s : PS) : Ok T s (mayS T w s) := by
 unfold mayS; split
 ·exact .take s
 ·exact .refl s
theorem Ok.must (w : List UInt8) (s : PS) : Ok T s (mustS T w s) := by
 unfold mustS; split
 ·exact .take s
 ·exact .fail _ s
theorem Ok.word (k : Int) (s : PS) : Ok T s (wordS T k s) := by
 unfold wordS; split
 ·exact .fail _ s
 ·exact .refl s
theorem Ok.most (n m : Int) (s : PS) : Ok T s (mostS T n m s) := by
 unfold mostS; split
 ·exact .fail _ s
 ·exact .refl s
theorem Ok.leaf (g : Int → Int) (s : PS) : Ok T s (leaf T g s).2 := by
 unfold Go.Proofs.YtdohdncgjendkaaDoor.leaf; split
 ·exact .fail _ s
 ·exact .take s
theorem Ok.flat (b : Bool) (s : PS) : Ok T s { s with flat := b } := ⟨fun i => i.same rfl rfl, rfl, Nat.le_refl _, fun _ => ⟨rfl, rfl, rfl⟩⟩
def OkR (T : List Tok) (rn : PS → Option (Nd × PS)) : Prop := ∀ s n s', rn s = some (n, s') → Ok T s s'
theorem in_ok {rn : PS → Option (Nd × PS)} (h : OkR T rn) {s s' : PS} {n : Nd} (hr : inR T rn s = some (n, s')) : Ok T s s' := by
 simp only [inR] at hr
 have hS : Ok T s (if s.deep ≥ 40 then fail T 15 s else s) := by
  split
  ·exact .fail _ s
  ·exact .refl s
 generalize (if s.deep ≥ 40 then fail T 15 s else s) = S at hS hr
 refine hS.trans ?_
 split at hr
 ·injection hr with hr; injection hr with h1 h2
  subst h2; exact .refl _
 ·rename_i he
  split at hr
  ·rename_i n2 s2 h2
   injection hr with hr; injection hr with h3 h4
   have := h _ _ _ h2
   subst h4
   refine ⟨fun i => ?_, by have := this.deep; simp only at this ⊢; omega, this.at_, fun e => absurd e he⟩
   have i2 := this.inv i.deepen
   exact i2.same rfl rfl |> fun i3 => ⟨i3.lt, i3.end_, i3.len, by have := this.deep; have := i.deep; simp only at *; omega⟩
  ·cases hr
theorem round_ok {rn : PS → Option (Nd × PS)} (h : OkR T rn) {s s' : PS} {n : Nd} (hr : roundR T rn s = some (n, s')) : Ok T s s' := by
 unfold roundR at hr
 split at hr
 ·rename_i n2 s2 h2
  injection hr with hr; injection hr with h3 h4
  subst h4
  exact ((Ok.must _ s).trans (in_ok h h2)).trans (.must _ _)
 ·cases hr
theorem whole_ok {rn : PS → Option (Nd × PS)} (h : OkR T rn) {s s' : PS} {n : Nd} (hr : wholeR T rn s = some (n, s')) : Ok T s s' := by
 unfold wholeR at hr
 split at hr
 ·rename_i n2 s2 h2
  injection hr with hr; injection hr with h3 h4
  subst h4
  exact ((Ok.flat false s).trans (in_ok h h2)).trans (.flat _ _)
 ·cases hr
theorem value_ok {rn : PS → Option (Nd × PS)} (h : OkR T rn) {s s' : PS} {v : List UInt8 × Bool × Nd} (hr : valueR T rn s = some (v, s')) : Ok T s s' := by
 unfold valueR at hr
 dsimp only at hr
 split at hr
 ·rename_i n2 s2 h2
  injection hr with hr; injection hr with h3 h4
  subst h4
  have h1 : Ok T s (mustS T [61] (takeS T (wordS T 3 (mayS T wRec s)))) := (((Ok.may _ s).trans (.word _ _)).trans (.take _)).trans (.must _ _)
  refine h1.trans (Ok.trans ?_ (in_ok h h2))
  split
  ·exact .fail _ _
  ·exact .refl _
 ·cases hr
theorem run_ok : ∀ (f : Nat) (fn : Fn), OkR T (run T f fn) := by
 intro f
 induction f with
 | zero => intro fn s n s' hr; cases hr
 | succ f ih =>
 have ex := ih .exp
 intro fn s n s' hr
 cases fn
 case tyapp =>
  rw [run_tyapp] at hr
  exact ((Ok.word _ s).trans (.take _)).trans (ih _ _ _ _ hr)
 case tyLoop n0 =>
  rw [run_tyLoop] at hr
  split at hr
  ·exact (Ok.take s).trans (ih _ _ _ _ hr)
  split at hr
  ·split at hr
   ·rename_i h2; exact (round_ok (ih .tyapp) h2).trans (ih _ _ _ _ hr)
   ·cases hr
  ·injection hr with hr; injection hr with h1 h2; subst h2; exact .refl _
 case con =>
  rw [run_con] at hr
  dsimp only at hr
  refine ((Ok.word 4 s).trans (.take _)).trans ?_
  split at hr
  ·exact (Ok.may _ _).trans (ih _ _ _ _ hr)
  ·injection hr with hr; injection hr with h1 h2; subst h2; exact .refl _
 case conLoop n0 more =>
  rw [run_conLoop] at hr
  split at hr
  ·split at hr
   ·rename_i h2; exact (((Ok.most _ _ s).trans (in_ok (ih .tyapp) h2)).trans (.may _ _)).trans (ih _ _ _ _ hr)
   ·cases hr
  ·injection hr with hr; injection hr with h1 h2; subst h2; exact .refl _
 case decltype =>
  rw [run_decltype] at hr
  dsimp only at hr
  split at hr
  ·rename_i h2; exact (((((Ok.take s).trans (.word _ _)).trans (.take _)).trans (ih _ _ _ _ h2)).trans (.must _ _)).trans (ih _ _ _ _ hr)
  ·cases hr
 case namesLoop n0 =>
  rw [run_namesLoop] at hr
  split at hr
  ·exact ((Ok.most _ _ s).trans (.take _)).trans (ih _ _ _ _ hr)
  ·injection hr with hr; injection hr with h1 h2; subst h2; exact .refl _
 case consLoop n0 more =>
  rw [run_consLoop] at hr
  split at hr
  ·split at hr
   ·rename_i h2; exact (((Ok.most _ _ s).trans (ih _ _ _ _ h2)).trans (.may _ _)).trans (ih _ _ _ _ hr)
   ·cases hr
  ·injection hr with hr; injection hr with h1 h2; subst h2; exact .refl _
 case decl =>
  rw [run_decl] at hr
  split at hr
  ·split at hr
   ·rename_i h2
    injection hr with hr; injection hr with h3 h4; subst h4
    exact (ih _ _ _ _ h2).trans (.must _ _)
   ·cases hr
  ·dsimp only at hr
   split at hr
   ·rename_i h2
    injection hr with hr; injection hr with h3 h4; subst h4
    exact ((((Ok.take s).trans (.flat _ _)).trans (value_ok ex h2)).trans (.flat _ _)).trans (.must _ _)
   ·cases hr
 case letE =>
  rw [run_letE] at hr
  dsimp only at hr
  split at hr
  ·rename_i h2
   split at hr
   ·rename_i h3
    injection hr with hr; injection hr with h4 h5; subst h5
    exact (((Ok.take s).trans (value_ok ex h2)).trans (.must _ _)).trans (in_ok ex h3)
   ·cases hr
  ·cases hr
 case funE =>
  rw [run_funE] at hr
  dsimp only at hr
  split at hr
  ·rename_i h2
   injection hr with hr; injection hr with h4 h5; subst h5
   exact ((((Ok.take s).trans (.word _ _)).trans (.take _)).trans (.must _ _)).trans (in_ok ex h2)
  ·cases hr
 case branch =>
  rw [run_branch] at hr
  dsimp only at hr
  split at hr
  ·rename_i h2
   split at hr
   ·rename_i h3
    split at hr
    ·rename_i h4
     injection hr with hr; injection hr with h5 h6; subst h6
     exact (((((Ok.take s).trans (in_ok ex h2)).trans (.must _ _)).trans (in_ok ex h3)).trans (.must _ _)).trans (in_ok ex h4)
    ·cases hr
   ·cases hr
  ·cases hr
 case exp =>
  rw [run_exp] at hr
  split at hr
  ·exact ih _ _ _ _ hr
  split at hr
  ·exact ih _ _ _ _ hr
  split at hr
  ·exact ih _ _ _ _ hr
  split at hr
  ·rename_i h2
   split at hr
   ·split at hr
    ·rename_i h3
     injection hr with hr; injection hr with h4 h5; subst h5
     exact ((ih _ _ _ _ h2).trans (.may _ _)).trans (in_ok ex h3)
    ·cases hr
   ·injection hr with hr; injection hr with h4 h5; subst h5; exact ih _ _ _ _ h2
  ·cases hr
 case cmp =>
  rw [run_cmp] at hr
  split at hr
  ·rename_i h2
   split at hr
   ·dsimp only at hr
    split at hr
    ·rename_i h3
     injection hr with hr; injection hr with h4 h5; subst h5
     exact ((ih _ _ _ _ h2).trans (.take _)).trans (ih _ _ _ _ h3)
    ·cases hr
   ·injection hr with hr; injection hr with h4 h5; subst h5; exact ih _ _ _ _ h2
  ·cases hr
 case sums mul =>
  rw [run_sums] at hr
  split at hr
  ·rename_i h2; exact (ih _ _ _ _ h2).trans (ih _ _ _ _ hr)
  ·cases hr
 case sumLoop mul n0 =>
  rw [run_sumLoop] at hr
  split at hr
  ·dsimp only at hr
   split at hr
   ·rename_i h2; exact ((Ok.take s).trans (ih _ _ _ _ h2)).trans (ih _ _ _ _ hr)
   ·cases hr
  ·injection hr with hr; injection hr with h4 h5; subst h5; exact .refl _
 case app =>
  rw [run_app] at hr
  split at hr
  ·exact (Ok.take s).trans (ih _ _ _ _ hr)
  ·dsimp only at hr
   split at hr
   ·rename_i h2; exact (ih _ _ _ _ h2).trans (ih _ _ _ _ hr)
   ·cases hr
 case kidsLoop n0 many =>
  rw [run_kidsLoop] at hr
  split at hr
  ·injection hr with hr; injection hr with h4 h5; subst h5; exact .refl _
  ·split at hr
   ·rename_i h2; exact (ih _ _ _ _ h2).trans (ih _ _ _ _ hr)
   ·cases hr
 case appLoop bare n0 =>
  rw [run_appLoop] at hr
  split at hr
  ·split at hr
   ·split at hr
    ·rename_i h2; exact ((Ok.most _ _ s).trans (ih _ _ _ _ h2)).trans (ih _ _ _ _ hr)
    ·cases hr
   ·split at hr
    ·rename_i h2; exact (ih _ _ _ _ h2).trans (ih _ _ _ _ hr)
    ·cases hr
  ·injection hr with hr; injection hr with h4 h5; subst h5; exact .refl _
 case matchE =>
  rw [run_matchE] at hr
  dsimp only at hr
  split at hr
  ·rename_i h2
   split at hr
   ·rename_i h3
    injection hr with hr; injection hr with h4 h5; subst h5
    exact ((((Ok.take s).trans (whole_ok ex h2)).trans (.must _ _)).trans (ih _ _ _ _ h3)).trans (.must _ _)
   ·cases hr
  ·cases hr
 case matchLoop n0 first =>
  rw [run_matchLoop] at hr
  split at hr
  ·split at hr
   ·rename_i h2
    split at hr
    ·rename_i h3
     exact (((((Ok.most _ _ s).trans (.must _ _)).trans (in_ok (ih .pat) h2)).trans (.must _ _)).trans (whole_ok ex h3)).trans (ih _ _ _ _ hr)
    ·cases hr
   ·cases hr
  ·injection hr with hr; injection hr with h4 h5; subst h5; exact .refl _
 case tryE =>
  rw [run_tryE] at hr
  dsimp only at hr
  split at hr
  ·rename_i h2
   split at hr
   ·rename_i h3
    injection hr with hr; injection hr with h4 h5; subst h5
    exact (((((((Ok.take s).trans (whole_ok ex h2)).trans (.must _ _)).trans (.word _ _)).trans (.take _)).trans (.must _ _)).trans (whole_ok ex h3)).trans (.must _ _)
   ·cases hr
  ·cases hr
 case atom =>
  rw [run_atom] at hr
  split at hr
  ·exact ih _ _ _ _ hr
  split at hr
  ·exact ih _ _ _ _ hr
  split at hr
  ·injection hr with hr; injection hr with h4 h5; subst h5; exact .take s
  split at hr
  ·dsimp only at hr
   split at hr
   ·injection hr with hr; injection hr with h4 h5; subst h5; exact (Ok.take s).trans (.may _ _)
   ·split at hr
    ·rename_i h2
     injection hr with hr; injection hr with h4 h5; subst h5
     exact ((Ok.take s).trans (whole_ok ex h2)).trans (.must _ _)
    ·cases hr
  ·injection hr with hr
   rw [show s' = (leaf T leafK s).2 by rw [hr]]
   exact .leaf _ s
 case pat =>
  rw [run_pat] at hr
  dsimp only at hr
  split at hr
  ·rename_i h2; exact (ih _ _ _ _ h2).trans (ih _ _ _ _ hr)
  ·cases hr
 case patLoop c n0 =>
  rw [run_patLoop] at hr
  split at hr
  ·split at hr
   ·rename_i h2; exact ((Ok.most _ _ s).trans (ih _ _ _ _ h2)).trans (ih _ _ _ _ hr)
   ·cases hr
  ·injection hr with hr; injection hr with h4 h5; subst h5; exact .refl _
 case patom =>
  rw [run_patom] at hr
  split at hr
  ·injection hr with hr; injection hr with h4 h5; subst h5; exact .may _ s
  split at hr
  ·exact round_ok (ih .pat) hr
  ·injection hr with hr
   rw [show s' = (leaf T patK s).2 by rw [hr]]
   exact .leaf _ s
 case program =>
  rw [run_program] at hr
  split at hr
  ·rename_i h2
   split at hr
   ·rename_i h3
    injection hr with hr; injection hr with h4 h5; subst h5
    refine (((ih _ _ _ _ h2).trans (.must _ _)).trans (in_ok ex h3)).trans ?_
    split
    ·exact .fail _ _
    ·exact .refl _
   ·cases hr
  ·cases hr
 case declLoop n0 =>
  rw [run_declLoop] at hr
  split at hr
  ·split at hr
   ·rename_i h2; exact ((Ok.most _ _ s).trans (ih _ _ _ _ h2)).trans (ih _ _ _ _ hr)
   ·cases hr
  ·injection hr with hr; injection hr with h4 h5; subst h5; exact .refl _
end
/-- A node, not ahead of a place. -/
inductive Pl (T : List Tok) : Int → Nd → Prop
 | mk {lo : Int} {k : Int} {t : List UInt8} {n a : Int} {ns : List (List UInt8)} {ks : List Nd} : (∃ (j : Nat) (q : Tok), T[j]? = some q ∧ (q.2 : Int) = a) → lo ≤ a → ns.length ≤ 1000000 → ks.length ≤ 1000000 → (∀ x ∈ ks, Pl T a x) → Pl T lo (.mk k t n a ns ks)
/-- Tokens one behind the other. -/
def Srt (T : List Tok) : Prop := ∀ (i j : Nat) (p q : Tok), i < j → T[i]? = some p → T[j]? = some q → p.2 < q.2
def pos (T : List Tok) (s : PS) : Int := ((look T s).2 : Int)
section
variable {T : List Tok}
theorem Pl.lower {lo lo' : Int} {n : Nd} (h : Pl T lo n) (hl : lo' ≤ lo) : Pl T lo' n := by
 cases h with | mk h1 h2 h3 h4 h5 => exact .mk h1 (Int.le_trans hl h2) h3 h4 h5
theorem Pl.self {lo : Int} {n : Nd} (h : Pl T lo n) : Pl T n.a n := by
 cases h with | mk h1 h2 h3 h4 h5 => exact .mk h1 (Int.le_refl _) h3 h4 h5
theorem Pl.tok {lo : Int} {n : Nd} (h : Pl T lo n) : (∃ (j : Nat) (q : Tok), T[j]? = some q ∧ (q.2 : Int) = n.a) ∧ lo ≤ n.a := by
 cases h with | mk h1 h2 h3 h4 h5 => exact ⟨h1, h2⟩
theorem Pl.wd {lo : Int} {n : Nd} (h : Pl T lo n) : Wd n := by
 induction h with | mk h1 h2 h3 h4 h5 ih => exact .mk h3 h4 ih
theorem Pl.add {lo : Int} {n : Nd} {xs : List Nd} (h : Pl T lo n) (hl : n.ks.length + xs.length ≤ 1000000) (hx : ∀ x ∈ xs, Pl T n.a x) : Pl T lo (n.add xs) := by
 cases h with
 | mk h1 h2 h3 h4 h5 =>
  refine .mk h1 h2 h3 (by simpa [Nd.ks] using hl) fun x hm => ?_
  rcases List.mem_append.1 hm with hm | hm
  ·exact h5 x hm
  ·exact hx x hm
theorem Pl.name {lo : Int} {n : Nd} {w : List UInt8} (h : Pl T lo n) (hl : n.ns.length + 1 ≤ 1000000) : Pl T lo (n.name w) := by
 cases h with | mk h1 h2 h3 h4 h5 => exact .mk h1 h2 (by simpa [Nd.ns] using hl) h4 h5
theorem add_a (n : Nd) (xs : List Nd) : (n.add xs).a = n.a := by cases n; rfl
theorem add_ks (n : Nd) (xs : List Nd) : (n.add xs).ks.length = n.ks.length + xs.length := by cases n; simp [Nd.add, Nd.ks]
theorem add_ns (n : Nd) (xs : List Nd) : (n.add xs).ns = n.ns := by cases n; rfl
theorem name_a (n : Nd) (w : List UInt8) : (n.name w).a = n.a := by cases n; rfl
theorem name_ks (n : Nd) (w : List UInt8) : (n.name w).ks = n.ks := by cases n; rfl
theorem name_ns (n : Nd) (w : List UInt8) : (n.name w).ns.length = n.ns.length + 1 := by cases n; simp [Nd.name, Nd.ns]
theorem Ok.e0 {s s' : PS} (h : Ok T s s') (e : s'.e = 0) : s.e = 0 := Classical.byContradiction fun h0 => by rw [(h.st h0).2.2] at e; exact h0 e
theorem pos_tok {s : PS} (hi : Inv T s) (he : s.e = 0) : ∃ (j : Nat) (q : Tok), T[j]? = some q ∧ (q.2 : Int) = pos T s := ⟨_, _, look_real hi he, rfl⟩
theorem pos_mono (hT : Srt T) {s s' : PS} (h : Ok T s s') (hi : Inv T s) (he : s'.e = 0) : pos T s ≤ pos T s' := by
 have h1 := look_real hi (h.e0 he)
 have h2 := look_real (h.inv hi) he
 rcases Nat.lt_or_ge s.at_ s'.at_ with h' | h'
 ·have := hT _ _ _ _ h' h1 h2; simp only [pos]; omega
 ·have e : s.at_ = s'.at_ := by have := h.at_; omega
  rw [e, h2] at h1
  simp only [pos]; injection h1 with h1; rw [h1]; exact Int.le_refl _
/-- A node of its own place, with kids. -/
theorem Pl.node {s : PS} (hi : Inv T s) (he : s.e = 0) {lo : Int} (hlo : lo ≤ pos T s) (k : Int) (t : List UInt8) {ks : List Nd} (hl : ks.length ≤ 1000000) (hk : ∀ x ∈ ks, Pl T (pos T s) x) : Pl T lo (Go.Proofs.YtdohdncgjendkaaDoor.node k (look T s).2 t ks) :=
 .mk (pos_tok hi he) hlo (by simp) hl hk
theorem Pl.nodeA {n : Nd} {lo : Int} (h : Pl T lo n) (k : Int) (t : List UInt8) {ks : List Nd} (hl : ks.length ≤ 1000000) (hk : ∀ x ∈ ks, Pl T n.a x) : Pl T lo (Go.Proofs.YtdohdncgjendkaaDoor.node k n.a t ks) :=
 .mk h.tok.1 h.tok.2 (by simp) hl hk
/-- What a reader's node is. -/
def PlR (T : List Tok) (rn : PS → Option (Nd × PS)) : Prop := ∀ s n s', Inv T s → rn s = some (n, s') → s'.e = 0 → Pl T (pos T s) n ∧ n.a ≤ pos T s'
theorem in_pl {rn : PS → Option (Nd × PS)} (h : PlR T rn) : PlR T (inR T rn) := by
 intro s n s' hi hr he
 simp only [inR] at hr
 have hS : ∃ S, S = (if s.deep ≥ 40 then fail T 15 s else s) ∧ (S.e = 0 → S = s) := by
  refine ⟨_, rfl, ?_⟩
  split
  ·exact fun h => absurd h (fail_e (by decide) _)
  ·exact fun _ => rfl
 obtain ⟨S, hS, hSe⟩ := hS
 rw [← hS] at hr
 split at hr
 ·rename_i h1
  injection hr with hr; injection hr with h2 h3
  subst h3; exact absurd he h1
 ·rename_i h1
  have e := hSe (by simpa using h1)
  subst e
  split at hr
  ·rename_i n2 s2 h2
   injection hr with hr; injection hr with h3 h4
   subst h3; subst h4
   exact h { S with deep := S.deep + 1 } n2 s2 hi.deepen h2 he
  ·cases hr
theorem round_pl (hT : Srt T) {rn : PS → Option (Nd × PS)} (ho : OkR T rn) (h : PlR T rn) : PlR T (roundR T rn) := by
 intro s n s' hi hr he
 unfold roundR at hr
 split at hr
 ·rename_i n2 s2 h2
  injection hr with hr; injection hr with h3 h4
  subst h3; subst h4
  have o1 := Ok.must (T := T) [40] s
  have o2 := in_ok ho h2
  have o3 := Ok.must (T := T) [41] s2
  have e2 := o3.e0 he
  obtain ⟨h5, h6⟩ := in_pl h _ _ _ (hi.must _) h2 e2
  exact ⟨h5.lower (pos_mono hT o1 hi (o2.e0 e2)), Int.le_trans h6 (pos_mono hT o3 (o2.inv (hi.must _)) he)⟩
 ·cases hr
theorem whole_pl {rn : PS → Option (Nd × PS)} (h : PlR T rn) : PlR T (wholeR T rn) := by
 intro s n s' hi hr he
 unfold wholeR at hr
 split at hr
 ·rename_i n2 s2 h2
  injection hr with hr; injection hr with h3 h4
  subst h3; subst h4
  exact in_pl h { s with flat := false } n2 s2 (hi.same rfl rfl) h2 he
 ·cases hr
theorem value_pl (hT : Srt T) {rn : PS → Option (Nd × PS)} (ho : OkR T rn) (h : PlR T rn) {s s' : PS} {v : List UInt8 × Bool × Nd} (hi : Inv T s) (hr : valueR T rn s = some (v, s')) (he : s'.e = 0) : Pl T (pos T s) v.2.2 ∧ v.2.2.a ≤ pos T s' := by
 unfold valueR at hr
 dsimp only at hr
 split at hr
 ·rename_i n2 s2 h2
  injection hr with hr; injection hr with h3 h4
  subst h3; subst h4
  have h1 : Ok T s (mustS T [61] (takeS T (wordS T 3 (mayS T wRec s)))) := (((Ok.may _ s).trans (.word _ _)).trans (.take _)).trans (.must _ _)
  generalize mustS T [61] (takeS T (wordS T 3 (mayS T wRec s))) = S at h1 h2
  have h5 : Ok T s (if (isW T wRec s && decide (S.deep < 40) && !isW T wFun S) = true then fail T 14 S else S) := by
   split
   ·exact h1.trans (.fail _ _)
   ·exact h1
  have o2 := in_ok ho h2
  obtain ⟨h6, h7⟩ := in_pl h _ _ _ (h5.inv hi) h2 he
  exact ⟨h6.lower (pos_mono hT h5 hi (o2.e0 he)), h7⟩
 ·cases hr
def base : Fn → Option (Nd × Bool)
 | .tyLoop n => some (n, true) | .conLoop n _ => some (n, true) | .namesLoop n => some (n, true) | .consLoop n _ => some (n, true) | .sumLoop _ n => some (n, false) | .appLoop b n => some (n, b) | .kidsLoop n _ => some (n, true) | .matchLoop n _ => some (n, true) | .patLoop c n => some (n, c) | .declLoop n => some (n, true)
 | _ => none
/-- What is asked of a node that is begun. -/
def Beg (T : List Tok) (f : Nat) (s : PS) (lo : Int) : Option (Nd × Bool) → Prop
 | none => lo ≤ pos T s
 | some (n, g) => Pl T lo n ∧ n.a ≤ pos T s ∧ (g = true → n.ks.length + 2 * f ≤ 900000 ∧ n.ns.length + f ≤ 900000)
theorem names_len : ∀ (q : Nat) (nd : Nd) (s : PS) (n : Nd) (s' : PS), run T q (.namesLoop nd) s = some (n, s') → n.ns.length ≤ nd.ns.length + q ∧ n.ks = nd.ks := by
 intro q
 induction q with
 | zero => intro nd s n s' hr; cases hr
 | succ q ih =>
  intro nd s n s' hr
  rw [run_namesLoop] at hr
  split at hr
  ·obtain ⟨l3, k3⟩ := ih _ _ _ _ hr
   exact ⟨by rw [name_ns] at l3; omega, by rw [k3, name_ks]⟩
  ·injection hr with hr; injection hr with r1 r2
   subst r1; exact ⟨by omega, rfl⟩
theorem decl_len : ∀ (q : Nat) (nd : Nd) (s : PS) (n : Nd) (s' : PS), run T q (.declLoop nd) s = some (n, s') → n.ks.length ≤ nd.ks.length + q := by
 intro q
 induction q with
 | zero => intro nd s n s' hr; cases hr
 | succ q ih =>
  intro nd s n s' hr
  rw [run_declLoop] at hr
  split at hr
  ·split at hr
   ·have l3 := ih _ _ _ _ hr
    rw [add_ks] at l3; simp at l3; omega
   ·cases hr
  ·injection hr with hr; injection hr with r1 r2
   subst r1; omega
theorem atom_con {f : Nat} {s s' : PS} {n : Nd} (hk : (look T s).1.k = 4) (hr : run T f .atom s = some (n, s')) : n.ks = [] ∧ n.ns = [] := by
 cases f with
 | zero => cases hr
 | succ f =>
 rw [run_atom] at hr
 have e : ∀ w, isW T w s = false := fun w => by simp [isW, hk]
 simp only [e, Bool.false_eq_true, if_false] at hr
 injection hr with hr
 have : n = (leaf T leafK s).1 := by rw [hr]
 rw [this, leaf, if_neg (by rw [hk]; decide)]
 exact ⟨rfl, rfl⟩
theorem patom_con {f : Nat} {s s' : PS} {n : Nd} (hk : (look T s).1.k = 4) (hr : run T f .patom s = some (n, s')) : n.ks = [] ∧ n.ns = [] := by
 cases f with
 | zero => cases hr
 | succ f =>
 rw [run_patom] at hr
 have e : ∀ w, isW T w s = false := fun w => by simp [isW, hk]
 simp only [e, Bool.false_eq_true, if_false] at hr
 injection hr with hr
 have : n = (leaf T patK s).1 := by rw [hr]
 rw [this, leaf, if_neg (by rw [hk]; decide)]
 exact ⟨rfl, rfl⟩
theorem leaf_pl (hT : Srt T) {g : Int → Int} {s : PS} (hi : Inv T s) (he : (leaf T g s).2.e = 0) : Pl T (pos T s) (leaf T g s).1 ∧ (leaf T g s).1.a ≤ pos T (leaf T g s).2 := by
 unfold leaf at he ⊢
 split at he
 ·exact absurd he (fail_e (by decide) _)
 ·rename_i h1
  rw [if_neg h1]
  exact ⟨.mk (pos_tok hi ((Ok.take s).e0 he)) (Int.le_refl _) (by simp) (by simp) (fun x hx => by cases hx), pos_mono hT (Ok.take s) hi he⟩
set_option maxHeartbeats 4000000 in
theorem run_pl (hT : Srt T) : ∀ (f : Nat), f ≤ 400000 → ∀ (fn : Fn) (s : PS) (n : Nd) (s' : PS) (lo : Int), Inv T s → Beg T f s lo (base fn) → run T f fn s = some (n, s') → s'.e = 0 → Pl T lo n ∧ n.a ≤ pos T s' := by
 intro f
 induction f with
 | zero => intro _ fn s n s' lo hi hb hr; cases hr
 | succ f ih =>
 intro hf
 replace ih := ih (by omega)
 have ih2 : ∀ {fn : Fn} {s : PS} {n : Nd} {s' : PS}, run T f fn s = some (n, s') → s'.e = 0 → ∀ (lo : Int), Inv T s → Beg T f s lo (base fn) → Pl T lo n ∧ n.a ≤ pos T s' := fun {fn s n s'} hr he lo hi hb => ih fn s n s' lo hi hb hr he
 have R : ∀ fn, base fn = none → PlR T (run T f fn) := fun fn hb s n s' hi hr he => ih fn s n s' _ hi (by rw [hb]; exact Int.le_refl _) hr he
 have ex := R .exp rfl
 have oex := run_ok (T := T) f .exp
 have mono : ∀ {a b : PS}, Ok T a b → Inv T a → b.e = 0 → pos T a ≤ pos T b := fun h hi he => pos_mono hT h hi he
 have done : ∀ {n0 n : Nd} {s s' : PS} {lo : Int} {X : Prop}, Pl T lo n0 ∧ n0.a ≤ pos T s ∧ X → some (n0, s) = some (n, s') → Pl T lo n ∧ n.a ≤ pos T s' := by
  intro n0 n s s' lo X hb hr
  injection hr with hr; injection hr with h1 h2
  subst h1; subst h2; exact ⟨hb.1, hb.2.1⟩
 intro fn s n s' lo hi hb hr he
 cases fn <;> simp only [base, Beg] at hb <;> (first | have hbl := hb.2.2 trivial | skip)
 case tyapp =>
  rw [run_tyapp] at hr
  dsimp only at hr
  have o1 := Ok.word (T := T) 3 s
  have o2 := Ok.take (T := T) (wordS T 3 s)
  have o3 := run_ok _ _ _ _ _ hr
  have e2 := o3.e0 he
  have e1 := o2.e0 e2
  exact ih2 hr he _ (hi.word 3).take ⟨Pl.node (hi.word 3) e1 (Int.le_trans hb (mono o1 hi e1)) _ _ (by simp) (fun x hx => by cases hx), mono o2 (hi.word 3) e2, fun _ => ⟨by simp [node, Nd.ks]; omega, by simp [node, Nd.ns]; omega⟩⟩
 case tyLoop n0 =>
  rw [run_tyLoop] at hr
  split at hr
  ·have o1 := Ok.take (T := T) s
   have o3 := run_ok _ _ _ _ _ hr
   have e1 := o3.e0 he
   have e0 := o1.e0 e1
   refine ih2 hr he _ hi.take ⟨hb.1.add (by simp; omega) (fun x hx => ?_), by rw [add_a]; exact Int.le_trans hb.2.1 (mono o1 hi e1), fun _ => ⟨by rw [add_ks]; simp; omega, by rw [add_ns]; omega⟩⟩
   simp only [List.mem_singleton] at hx
   subst hx
   exact Pl.node hi e0 hb.2.1 _ _ (by simp) (fun x hx => by cases hx)
  split at hr
  ·split at hr
   ·rename_i h2
    have o1 := round_ok (run_ok _ .tyapp) h2
    have o3 := run_ok _ _ _ _ _ hr
    have e1 := o3.e0 he
    obtain ⟨p1, p2⟩ := round_pl hT (run_ok _ .tyapp) (R .tyapp rfl) _ _ _ hi h2 e1
    refine ih2 hr he _ (o1.inv hi) ⟨hb.1.add (by simp; omega) (fun x hx => ?_), by rw [add_a]; exact Int.le_trans hb.2.1 (mono o1 hi e1), fun _ => ⟨by rw [add_ks]; simp; omega, by rw [add_ns]; omega⟩⟩
    simp only [List.mem_singleton] at hx
    subst hx
    exact p1.lower hb.2.1
   ·cases hr
  ·exact done hb hr
 case con =>
  rw [run_con] at hr
  dsimp only at hr
  have o1 := Ok.word (T := T) 4 s
  have o2 := Ok.take (T := T) (wordS T 4 s)
  have i2 := (hi.word 4).take
  split at hr
  ·have o4 := Ok.may (T := T) wOf (takeS T (wordS T 4 s))
   have o3 := run_ok _ _ _ _ _ hr
   have e3 := o3.e0 he
   have e2 := o4.e0 e3
   have e1 := o2.e0 e2
   exact ih2 hr he _ (i2.may _) ⟨Pl.node (hi.word 4) e1 (Int.le_trans hb (mono o1 hi e1)) _ _ (by simp) (fun x hx => by cases hx), mono (o2.trans o4) (hi.word 4) e3, fun _ => ⟨by simp [node, Nd.ks]; omega, by simp [node, Nd.ns]; omega⟩⟩
  ·injection hr with hr; injection hr with h1 h2
   subst h1; subst h2
   have e1 := o2.e0 he
   exact ⟨Pl.node (hi.word 4) e1 (Int.le_trans hb (mono o1 hi e1)) _ _ (by simp) (fun x hx => by cases hx), mono o2 (hi.word 4) he⟩
 case conLoop n0 more =>
  rw [run_conLoop] at hr
  split at hr
  ·split at hr
   ·rename_i x s1 h2
    have o1 := Ok.most (T := T) n0.ks.length 4 s
    have o2 := in_ok (run_ok _ .tyapp) h2
    have o4 := Ok.may (T := T) [44] s1
    have o3 := run_ok _ _ _ _ _ hr
    have e3 := o3.e0 he
    have e2 := o4.e0 e3
    have i1 := hi.most n0.ks.length 4
    obtain ⟨p1, p2⟩ := in_pl (R .tyapp rfl) _ _ _ i1 h2 e2
    refine ih2 hr he _ (o4.inv (o2.inv i1)) ⟨hb.1.add (by simp; omega) (fun x hx => ?_), by rw [add_a]; exact Int.le_trans hb.2.1 (mono ((o1.trans o2).trans o4) hi e3), fun _ => ⟨by rw [add_ks]; simp; omega, by rw [add_ns]; omega⟩⟩
    simp only [List.mem_singleton] at hx
    subst hx
    exact p1.lower (Int.le_trans hb.2.1 (mono o1 hi (o2.e0 e2)))
   ·cases hr
  ·exact done hb hr
 case decltype =>
  rw [run_decltype] at hr
  dsimp only at hr
  split at hr
  ·rename_i n1 s1 h2
   have o1 := Ok.take (T := T) s
   have o2 := ((Ok.take (T := T) s).trans (.word 3 _)).trans (.take _)
   have o3 := run_ok _ _ _ _ _ h2
   have o4 := Ok.must (T := T) [61] s1
   have o5 := run_ok _ _ _ _ _ hr
   have e4 := o5.e0 he
   have e3 := o4.e0 e4
   have e2 := o3.e0 e3
   have e0 := o2.e0 e2
   have i2 := (hi.take.word 3).take
   have L := names_len _ _ _ _ _ h2
   obtain ⟨p1, p2⟩ := ih2 h2 e3 lo i2 ⟨Pl.node hi e0 hb _ _ (by simp) (fun x hx => by cases hx), mono o2 hi e2, fun _ => ⟨by simp [node, Nd.ks]; omega, by simp [node, Nd.ns]; omega⟩⟩
   have L1 : n1.ns.length ≤ 0 + f := L.1
   have L2 : n1.ks = [] := L.2
   exact ih2 hr he _ (o4.inv (o3.inv i2)) ⟨p1, Int.le_trans p2 (mono o4 (o3.inv i2) e4), fun _ => ⟨by rw [L2]; simp; omega, by omega⟩⟩
  ·cases hr
 case namesLoop n0 =>
  rw [run_namesLoop] at hr
  split at hr
  ·dsimp only at hr
   have o1 := (Ok.most (T := T) n0.ns.length 4 s).trans (.take _)
   have o3 := run_ok _ _ _ _ _ hr
   have e1 := o3.e0 he
   exact ih2 hr he _ (o1.inv hi) ⟨hb.1.name (by omega), by rw [name_a]; exact Int.le_trans hb.2.1 (mono o1 hi e1), fun _ => ⟨by rw [name_ks]; omega, by rw [name_ns]; omega⟩⟩
  ·exact done hb hr
 case consLoop n0 more =>
  rw [run_consLoop] at hr
  split at hr
  ·split at hr
   ·rename_i x s1 h2
    have o1 := Ok.most (T := T) n0.ks.length 20 s
    have o2 := run_ok _ _ _ _ _ h2
    have o4 := Ok.may (T := T) [124] s1
    have o3 := run_ok _ _ _ _ _ hr
    have e3 := o3.e0 he
    have e2 := o4.e0 e3
    have i1 := hi.most n0.ks.length 20
    obtain ⟨p1, p2⟩ := R .con rfl _ _ _ i1 h2 e2
    refine ih2 hr he _ (o4.inv (o2.inv i1)) ⟨hb.1.add (by simp; omega) (fun x hx => ?_), by rw [add_a]; exact Int.le_trans hb.2.1 (mono ((o1.trans o2).trans o4) hi e3), fun _ => ⟨by rw [add_ks]; simp; omega, by rw [add_ns]; omega⟩⟩
    simp only [List.mem_singleton] at hx
    subst hx
    exact p1.lower (Int.le_trans hb.2.1 (mono o1 hi (o2.e0 e2)))
   ·cases hr
  ·exact done hb hr
 case decl =>
  rw [run_decl] at hr
  split at hr
  ·split at hr
   ·rename_i n1 s1 h2
    injection hr with hr; injection hr with h3 h4
    subst h3; subst h4
    have o1 := run_ok _ _ _ _ _ h2
    have o2 := Ok.must (T := T) [59] s1
    have e1 := o2.e0 he
    obtain ⟨p1, p2⟩ := R .decltype rfl _ _ _ hi h2 e1
    exact ⟨p1.lower hb, Int.le_trans p2 (mono o2 (o1.inv hi) he)⟩
   ·cases hr
  ·dsimp only at hr
   split at hr
   ·rename_i nm rc v s1 h2
    injection hr with hr; injection hr with h3 h4
    subst h3; subst h4
    have o0 := (Ok.take (T := T) s).trans (Ok.flat true _)
    have o1 := value_ok oex h2
    have o2 := (Ok.flat (T := T) false s1).trans (Ok.must (T := T) [59] _)
    have e1 := o2.e0 he
    have e0 := o1.e0 e1
    obtain ⟨p1, p2⟩ := value_pl hT oex ex (o0.inv hi) h2 e1
    refine ⟨Pl.node hi (o0.e0 e0) hb _ _ (by simp) (fun x hx => ?_), mono ((o0.trans o1).trans o2) hi he⟩
    simp only [List.mem_singleton] at hx
    subst hx
    exact p1.lower (mono o0 hi e0)
   ·cases hr
 case letE =>
  rw [run_letE] at hr
  dsimp only at hr
  split at hr
  ·rename_i nm rc v s1 h2
   split at hr
   ·rename_i x s2 h3
    injection hr with hr; injection hr with h4 h5
    subst h4; subst h5
    have o0 := Ok.take (T := T) s
    have o1 := value_ok oex h2
    have o2 := Ok.must (T := T) wIn s1
    have o3 := in_ok oex h3
    have e2 := o3.e0 he
    have e1 := o2.e0 e2
    have e0 := o1.e0 e1
    have i1 := o1.inv hi.take
    obtain ⟨p1, p2⟩ := value_pl hT oex ex hi.take h2 e1
    obtain ⟨p3, p4⟩ := in_pl ex _ _ _ (o2.inv i1) h3 he
    refine ⟨Pl.node hi (o0.e0 e0) hb _ _ (by simp) (fun x hx => ?_), mono (((o0.trans o1).trans o2).trans o3) hi he⟩
    simp only [List.mem_cons, List.not_mem_nil, or_false] at hx
    rcases hx with rfl | rfl
    ·exact p1.lower (mono o0 hi e0)
    ·exact p3.lower (mono ((o0.trans o1).trans o2) hi e2)
   ·cases hr
  ·cases hr
 case funE =>
  rw [run_funE] at hr
  dsimp only at hr
  split at hr
  ·rename_i x s1 h2
   injection hr with hr; injection hr with h4 h5
   subst h4; subst h5
   have o0 := (((Ok.take (T := T) s).trans (.word 3 _)).trans (.take _)).trans (.must wArrow _)
   have o1 := in_ok oex h2
   have e0 := o1.e0 he
   obtain ⟨p3, p4⟩ := in_pl ex _ _ _ (o0.inv hi) h2 he
   refine ⟨Pl.node hi (o0.e0 e0) hb _ _ (by simp) (fun x hx => ?_), mono (o0.trans o1) hi he⟩
   simp only [List.mem_singleton] at hx
   subst hx
   exact p3.lower (mono o0 hi e0)
  ·cases hr
 case branch =>
  rw [run_branch] at hr
  dsimp only at hr
  split at hr
  ·rename_i x1 s1 h2
   split at hr
   ·rename_i x2 s2 h3
    split at hr
    ·rename_i x3 s3 h4
     injection hr with hr; injection hr with h5 h6
     subst h5; subst h6
     have o0 := Ok.take (T := T) s
     have o1 := in_ok oex h2
     have o2 := Ok.must (T := T) wThen s1
     have o3 := in_ok oex h3
     have o4 := Ok.must (T := T) wElse s2
     have o5 := in_ok oex h4
     have e4 := o5.e0 he
     have e3 := o4.e0 e4
     have e2 := o3.e0 e3
     have e1 := o2.e0 e2
     have e0 := o1.e0 e1
     have i1 := o1.inv hi.take
     have i3 := o3.inv (o2.inv i1)
     obtain ⟨p1, _⟩ := in_pl ex _ _ _ hi.take h2 e1
     obtain ⟨p2, _⟩ := in_pl ex _ _ _ (o2.inv i1) h3 e3
     obtain ⟨p3, _⟩ := in_pl ex _ _ _ (o4.inv i3) h4 he
     refine ⟨Pl.node hi (o0.e0 e0) hb _ _ (by simp) (fun x hx => ?_), mono (((((o0.trans o1).trans o2).trans o3).trans o4).trans o5) hi he⟩
     simp only [List.mem_cons, List.not_mem_nil, or_false] at hx
     rcases hx with rfl | rfl | rfl
     ·exact p1.lower (mono o0 hi e0)
     ·exact p2.lower (mono ((o0.trans o1).trans o2) hi e2)
     ·exact p3.lower (mono ((((o0.trans o1).trans o2).trans o3).trans o4) hi e4)
    ·cases hr
   ·cases hr
  ·cases hr
 case exp =>
  rw [run_exp] at hr
  split at hr
  ·obtain ⟨p1, p2⟩ := R .letE rfl _ _ _ hi hr he; exact ⟨p1.lower hb, p2⟩
  split at hr
  ·obtain ⟨p1, p2⟩ := R .funE rfl _ _ _ hi hr he; exact ⟨p1.lower hb, p2⟩
  split at hr
  ·obtain ⟨p1, p2⟩ := R .branch rfl _ _ _ hi hr he; exact ⟨p1.lower hb, p2⟩
  split at hr
  ·rename_i x1 s1 h2
   have o1 := run_ok _ _ _ _ _ h2
   split at hr
   ·split at hr
    ·rename_i x2 s2 h3
     injection hr with hr; injection hr with h4 h5
     subst h4; subst h5
     have o2 := Ok.may (T := T) [59] s1
     have o3 := in_ok oex h3
     have e2 := o3.e0 he
     have e1 := o2.e0 e2
     have i1 := o1.inv hi
     obtain ⟨p1, p2⟩ := R .cmp rfl _ _ _ hi h2 e1
     obtain ⟨p3, p4⟩ := in_pl ex _ _ _ (o2.inv i1) h3 he
     refine ⟨(Pl.nodeA p1 _ _ (by simp) (fun x hx => ?_)).lower hb, Int.le_trans p2 (mono (o2.trans o3) i1 he)⟩
     simp only [List.mem_cons, List.not_mem_nil, or_false] at hx
     rcases hx with rfl | rfl
     ·exact p1.self
     ·exact p3.lower (Int.le_trans p2 (mono o2 i1 e2))
    ·cases hr
   ·injection hr with hr; injection hr with h4 h5
    subst h4; subst h5
    obtain ⟨p1, p2⟩ := R .cmp rfl _ _ _ hi h2 he
    exact ⟨p1.lower hb, p2⟩
  ·cases hr
 case cmp =>
  rw [run_cmp] at hr
  split at hr
  ·rename_i x1 s1 h2
   have o1 := run_ok _ _ _ _ _ h2
   split at hr
   ·dsimp only at hr
    split at hr
    ·rename_i x2 s2 h3
     injection hr with hr; injection hr with h4 h5
     subst h4; subst h5
     have o2 := Ok.take (T := T) s1
     have o3 := run_ok _ _ _ _ _ h3
     have e2 := o3.e0 he
     have e1 := o2.e0 e2
     have i1 := o1.inv hi
     obtain ⟨p1, p2⟩ := R (.sums false) rfl _ _ _ hi h2 e1
     obtain ⟨p3, p4⟩ := R (.sums false) rfl _ _ _ (o2.inv i1) h3 he
     refine ⟨(Pl.nodeA p1 _ _ (by simp) (fun x hx => ?_)).lower hb, Int.le_trans p2 (mono (o2.trans o3) i1 he)⟩
     simp only [List.mem_cons, List.not_mem_nil, or_false] at hx
     rcases hx with rfl | rfl
     ·exact p1.self
     ·exact p3.lower (Int.le_trans p2 (mono o2 i1 e2))
    ·cases hr
   ·injection hr with hr; injection hr with h4 h5
    subst h4; subst h5
    obtain ⟨p1, p2⟩ := R (.sums false) rfl _ _ _ hi h2 he
    exact ⟨p1.lower hb, p2⟩
  ·cases hr
 case sums mul =>
  rw [run_sums] at hr
  split at hr
  ·rename_i x1 s1 h2
   have o1 := run_ok _ _ _ _ _ h2
   have o2 := run_ok _ _ _ _ _ hr
   have e1 := o2.e0 he
   obtain ⟨p1, p2⟩ := R (if mul = true then .app else .sums true) (by cases mul <;> rfl) _ _ _ hi h2 e1
   exact ih2 hr he _ (o1.inv hi) ⟨p1.lower hb, p2, fun e => Bool.noConfusion e⟩
  ·cases hr
 case sumLoop mul n0 =>
  rw [run_sumLoop] at hr
  split at hr
  ·dsimp only at hr
   split at hr
   ·rename_i x1 s1 h2
    have o0 := Ok.take (T := T) s
    have o1 := run_ok _ _ _ _ _ h2
    have o2 := run_ok _ _ _ _ _ hr
    have e1 := o2.e0 he
    have e0 := o1.e0 e1
    obtain ⟨p1, p2⟩ := R (if mul = true then .app else .sums true) (by cases mul <;> rfl) _ _ _ hi.take h2 e1
    refine ih2 hr he _ (o1.inv hi.take) ⟨Pl.nodeA hb.1 _ _ (by simp) (fun x hx => ?_), Int.le_trans hb.2.1 (mono (o0.trans o1) hi e1), fun e => Bool.noConfusion e⟩
    simp only [List.mem_cons, List.not_mem_nil, or_false] at hx
    rcases hx with rfl | rfl
    ·exact hb.1.self
    ·exact p1.lower (Int.le_trans hb.2.1 (mono o0 hi e0))
   ·cases hr
  ·exact done hb hr
 case app =>
  rw [run_app] at hr
  split at hr
  ·rename_i h0
   have o1 := Ok.take (T := T) s
   have o2 := run_ok _ _ _ _ _ hr
   have e1 := o2.e0 he
   exact ih2 hr he _ hi.take ⟨Pl.node hi (o1.e0 e1) hb _ _ (by simp) (fun x hx => by cases hx), mono o1 hi e1, fun _ => ⟨by simp [node, Nd.ks]; omega, by simp [node, Nd.ns]; omega⟩⟩
  ·dsimp only at hr
   split at hr
   ·rename_i x1 s1 h2
    have o1 := run_ok _ _ _ _ _ h2
    have o2 := run_ok _ _ _ _ _ hr
    have e1 := o2.e0 he
    obtain ⟨p1, p2⟩ := R .atom rfl _ _ _ hi h2 e1
    refine ih2 hr he _ (o1.inv hi) ⟨p1.lower hb, p2, fun e => ?_⟩
    obtain ⟨L1, L2⟩ := atom_con (by simpa using e) h2
    rw [L1, L2]; simp; omega
   ·cases hr
 case kidsLoop n0 many =>
  rw [run_kidsLoop] at hr
  split at hr
  ·exact done hb hr
  ·split at hr
   ·rename_i x s1 h2
    have o1 := run_ok _ _ _ _ _ h2
    have o2 := run_ok _ _ _ _ _ hr
    have e1 := o2.e0 he
    obtain ⟨p1, p2⟩ := R .atom rfl _ _ _ hi h2 e1
    refine ih2 hr he _ (o1.inv hi) ⟨hb.1.add (by simp; omega) (fun x hx => ?_), by rw [add_a]; exact Int.le_trans hb.2.1 (mono o1 hi e1), fun _ => ⟨by rw [add_ks]; simp; omega, by rw [add_ns]; omega⟩⟩
    simp only [List.mem_singleton] at hx
    subst hx
    exact p1.lower hb.2.1
   ·cases hr
 case appLoop bare n0 =>
  rw [run_appLoop] at hr
  split at hr
  ·split at hr
   ·rename_i hbare
    split at hr
    ·rename_i x s1 h2
     have hbl := hb.2.2 hbare
     have o0 := Ok.most (T := T) n0.ks.length 4 s
     have o1 := run_ok _ _ _ _ _ h2
     have o2 := run_ok _ _ _ _ _ hr
     have e1 := o2.e0 he
     have e0 := o1.e0 e1
     have i1 := hi.most n0.ks.length 4
     obtain ⟨p1, p2⟩ := R .atom rfl _ _ _ i1 h2 e1
     refine ih2 hr he _ (o1.inv i1) ⟨hb.1.add (by simp; omega) (fun x hx => ?_), by rw [add_a]; exact Int.le_trans hb.2.1 (mono (o0.trans o1) hi e1), fun _ => ⟨by rw [add_ks]; simp; omega, by rw [add_ns]; omega⟩⟩
     simp only [List.mem_singleton] at hx
     subst hx
     exact p1.lower (Int.le_trans hb.2.1 (mono o0 hi e0))
    ·cases hr
   ·rename_i hbare
    split at hr
    ·rename_i x s1 h2
     have o1 := run_ok _ _ _ _ _ h2
     have o2 := run_ok _ _ _ _ _ hr
     have e1 := o2.e0 he
     obtain ⟨p1, p2⟩ := R .atom rfl _ _ _ hi h2 e1
     refine ih2 hr he _ (o1.inv hi) ⟨Pl.nodeA hb.1 _ _ (by simp) (fun x hx => ?_), Int.le_trans hb.2.1 (mono o1 hi e1), fun e => absurd e hbare⟩
     simp only [List.mem_cons, List.not_mem_nil, or_false] at hx
     rcases hx with rfl | rfl
     ·exact hb.1.self
     ·exact p1.lower hb.2.1
    ·cases hr
  ·exact done hb hr
 case matchE =>
  rw [run_matchE] at hr
  dsimp only at hr
  split at hr
  ·rename_i x1 s1 h2
   split at hr
   ·rename_i x2 s2 h3
    injection hr with hr; injection hr with h4 h5
    subst h4; subst h5
    have o0 := Ok.take (T := T) s
    have o1 := whole_ok oex h2
    have o2 := Ok.must (T := T) wWith s1
    have o3 := run_ok _ _ _ _ _ h3
    have o4 := Ok.must (T := T) wEnd s2
    have e3 := o4.e0 he
    have e2 := o3.e0 e3
    have e1 := o2.e0 e2
    have e0 := o1.e0 e1
    have i1 := o1.inv hi.take
    obtain ⟨p1, p2⟩ := whole_pl ex _ _ _ hi.take h2 e1
    obtain ⟨p3, p4⟩ := ih2 h3 e3 lo (o2.inv i1) ⟨Pl.node hi (o0.e0 e0) hb _ _ (by simp) (fun x hx => by
     simp only [List.mem_singleton] at hx
     subst hx
     exact p1.lower (mono o0 hi e0)), mono ((o0.trans o1).trans o2) hi e2, fun _ => ⟨by simp [node, Nd.ks]; omega, by simp [node, Nd.ns]; omega⟩⟩
    exact ⟨p3, Int.le_trans p4 (mono o4 (o3.inv (o2.inv i1)) he)⟩
   ·cases hr
  ·cases hr
 case matchLoop n0 first =>
  rw [run_matchLoop] at hr
  split at hr
  ·split at hr
   ·rename_i x1 s1 h2
    split at hr
    ·rename_i x2 s2 h3
     have o0 := (Ok.most (T := T) ((n0.ks.length / 2 : Nat) : Int) 20 s).trans (.must [124] _)
     have o1 := in_ok (run_ok _ .pat) h2
     have o2 := Ok.must (T := T) wArrow s1
     have o3 := whole_ok oex h3
     have o4 := run_ok _ _ _ _ _ hr
     have e3 := o4.e0 he
     have e2 := o3.e0 e3
     have e1 := o2.e0 e2
     have e0 := o1.e0 e1
     have i0 := o0.inv hi
     have i1 := o1.inv i0
     obtain ⟨p1, p2⟩ := in_pl (R .pat rfl) _ _ _ i0 h2 e1
     obtain ⟨p3, p4⟩ := whole_pl ex _ _ _ (o2.inv i1) h3 e3
     refine ih2 hr he _ (o3.inv (o2.inv i1)) ⟨hb.1.add (by simp; omega) (fun x hx => ?_), by rw [add_a]; exact Int.le_trans hb.2.1 (mono (((o0.trans o1).trans o2).trans o3) hi e3), fun _ => ⟨by rw [add_ks]; simp; omega, by rw [add_ns]; omega⟩⟩
     simp only [List.mem_cons, List.not_mem_nil, or_false] at hx
     rcases hx with rfl | rfl
     ·exact p1.lower (Int.le_trans hb.2.1 (mono o0 hi e0))
     ·exact p3.lower (Int.le_trans hb.2.1 (mono ((o0.trans o1).trans o2) hi e2))
    ·cases hr
   ·cases hr
  ·exact done hb hr
 case tryE =>
  rw [run_tryE] at hr
  dsimp only at hr
  split at hr
  ·rename_i x1 s1 h2
   split at hr
   ·rename_i x2 s2 h3
    injection hr with hr; injection hr with h4 h5
    subst h4; subst h5
    have o0 := Ok.take (T := T) s
    have o1 := whole_ok oex h2
    have o2 := (((Ok.must (T := T) wWith s1).trans (.word 3 _)).trans (.take _)).trans (.must wArrow _)
    have o3 := whole_ok oex h3
    have o4 := Ok.must (T := T) wEnd s2
    have e3 := o4.e0 he
    have e2 := o3.e0 e3
    have e1 := o2.e0 e2
    have e0 := o1.e0 e1
    have i1 := o1.inv hi.take
    obtain ⟨p1, p2⟩ := whole_pl ex _ _ _ hi.take h2 e1
    obtain ⟨p3, p4⟩ := whole_pl ex _ _ _ (o2.inv i1) h3 e3
    refine ⟨Pl.node hi (o0.e0 e0) hb _ _ (by simp) (fun x hx => ?_), mono ((((o0.trans o1).trans o2).trans o3).trans o4) hi he⟩
    simp only [List.mem_cons, List.not_mem_nil, or_false] at hx
    rcases hx with rfl | rfl
    ·exact p1.lower (mono o0 hi e0)
    ·exact p3.lower (mono ((o0.trans o1).trans o2) hi e2)
   ·cases hr
  ·cases hr
 case atom =>
  rw [run_atom] at hr
  split at hr
  ·obtain ⟨p1, p2⟩ := R .matchE rfl _ _ _ hi hr he; exact ⟨p1.lower hb, p2⟩
  split at hr
  ·obtain ⟨p1, p2⟩ := R .tryE rfl _ _ _ hi hr he; exact ⟨p1.lower hb, p2⟩
  split at hr
  ·injection hr with hr; injection hr with h4 h5
   subst h4; subst h5
   have o0 := Ok.take (T := T) s
   exact ⟨Pl.node hi (o0.e0 he) hb _ _ (by simp) (fun x hx => by cases hx), mono o0 hi he⟩
  split at hr
  ·dsimp only at hr
   split at hr
   ·injection hr with hr; injection hr with h4 h5
    subst h4; subst h5
    have o0 := (Ok.take (T := T) s).trans (.may [41] _)
    exact ⟨Pl.node hi (o0.e0 he) hb _ _ (by simp) (fun x hx => by cases hx), mono o0 hi he⟩
   ·split at hr
    ·rename_i x1 s1 h2
     injection hr with hr; injection hr with h4 h5
     subst h4; subst h5
     have o0 := Ok.take (T := T) s
     have o1 := whole_ok oex h2
     have o2 := Ok.must (T := T) [41] s1
     have e1 := o2.e0 he
     have e0 := o1.e0 e1
     obtain ⟨p1, p2⟩ := whole_pl ex _ _ _ hi.take h2 e1
     exact ⟨p1.lower (Int.le_trans hb (mono o0 hi e0)), Int.le_trans p2 (mono o2 (o1.inv hi.take) he)⟩
    ·cases hr
  ·injection hr with hr
   have h1 : n = (leaf T leafK s).1 := by rw [hr]
   have h2 : s' = (leaf T leafK s).2 := by rw [hr]
   subst h1; subst h2
   obtain ⟨p1, p2⟩ := leaf_pl hT hi he
   exact ⟨p1.lower hb, p2⟩
 case pat =>
  rw [run_pat] at hr
  dsimp only at hr
  split at hr
  ·rename_i x1 s1 h2
   have o1 := run_ok _ _ _ _ _ h2
   have o2 := run_ok _ _ _ _ _ hr
   have e1 := o2.e0 he
   obtain ⟨p1, p2⟩ := R .patom rfl _ _ _ hi h2 e1
   refine ih2 hr he _ (o1.inv hi) ⟨p1.lower hb, p2, fun e => ?_⟩
   obtain ⟨L1, L2⟩ := patom_con (by simpa using e) h2
   rw [L1, L2]; simp; omega
  ·cases hr
 case patLoop c n0 =>
  rw [run_patLoop] at hr
  split at hr
  ·rename_i hc
   split at hr
   ·rename_i x s1 h2
    have hbl := hb.2.2 (by cases c; simp at hc; rfl)
    have o0 := Ok.most (T := T) n0.ks.length 4 s
    have o1 := run_ok _ _ _ _ _ h2
    have o2 := run_ok _ _ _ _ _ hr
    have e1 := o2.e0 he
    have e0 := o1.e0 e1
    have i1 := hi.most n0.ks.length 4
    obtain ⟨p1, p2⟩ := R .patom rfl _ _ _ i1 h2 e1
    refine ih2 hr he _ (o1.inv i1) ⟨hb.1.add (by simp; omega) (fun x hx => ?_), by rw [add_a]; exact Int.le_trans hb.2.1 (mono (o0.trans o1) hi e1), fun _ => ⟨by rw [add_ks]; simp; omega, by rw [add_ns]; omega⟩⟩
    simp only [List.mem_singleton] at hx
    subst hx
    exact p1.lower (Int.le_trans hb.2.1 (mono o0 hi e0))
   ·cases hr
  ·exact done hb hr
 case patom =>
  rw [run_patom] at hr
  split at hr
  ·injection hr with hr; injection hr with h4 h5
   subst h4; subst h5
   have o0 := Ok.may (T := T) [95] s
   exact ⟨Pl.node hi (o0.e0 he) hb _ _ (by simp) (fun x hx => by cases hx), mono o0 hi he⟩
  split at hr
  ·obtain ⟨p1, p2⟩ := round_pl hT (run_ok _ .pat) (R .pat rfl) _ _ _ hi hr he; exact ⟨p1.lower hb, p2⟩
  ·injection hr with hr
   have h1 : n = (leaf T patK s).1 := by rw [hr]
   have h2 : s' = (leaf T patK s).2 := by rw [hr]
   subst h1; subst h2
   obtain ⟨p1, p2⟩ := leaf_pl hT hi he
   exact ⟨p1.lower hb, p2⟩
 case program =>
  rw [run_program] at hr
  split at hr
  ·rename_i x1 s1 h2
   split at hr
   ·rename_i x2 s2 h3
    injection hr with hr; injection hr with h4 h5
    have o0 := run_ok _ _ _ _ _ h2
    have o1 := Ok.must (T := T) wDo s1
    have o2 := in_ok oex h3
    have o3 : Ok T s2 s' := by
     subst h5; split
     ·exact .fail _ _
     ·exact .refl _
    subst h4
    have e2 := o3.e0 he
    have e1 := o2.e0 e2
    have e0 := o1.e0 e1
    have i0 := o0.inv hi
    obtain ⟨p1, p2⟩ := ih2 h2 e0 lo hi ⟨Pl.node hi (o0.e0 e0) hb _ _ (by simp) (fun x hx => by cases hx), Int.le_refl _, fun _ => ⟨by simp [node, Nd.ks]; omega, by simp [node, Nd.ns]; omega⟩⟩
    obtain ⟨p3, p4⟩ := in_pl ex _ _ _ (o1.inv i0) h3 e2
    have L := decl_len _ _ _ _ _ h2
    refine ⟨p1.add (by have L' : x1.ks.length ≤ 0 + f := L; simp; omega) (fun x hx => ?_), by rw [add_a]; exact Int.le_trans p2 (mono ((o1.trans o2).trans o3) i0 he)⟩
    simp only [List.mem_singleton] at hx
    subst hx
    exact p3.lower (Int.le_trans p2 (mono o1 i0 e1))
   ·cases hr
  ·cases hr
 case declLoop n0 =>
  rw [run_declLoop] at hr
  split at hr
  ·split at hr
   ·rename_i x s1 h2
    have o0 := Ok.most (T := T) n0.ks.length 60 s
    have o1 := run_ok _ _ _ _ _ h2
    have o2 := run_ok _ _ _ _ _ hr
    have e1 := o2.e0 he
    have e0 := o1.e0 e1
    have i1 := hi.most n0.ks.length 60
    obtain ⟨p1, p2⟩ := R .decl rfl _ _ _ i1 h2 e1
    refine ih2 hr he _ (o1.inv i1) ⟨hb.1.add (by simp; omega) (fun x hx => ?_), by rw [add_a]; exact Int.le_trans hb.2.1 (mono (o0.trans o1) hi e1), fun _ => ⟨by rw [add_ks]; simp; omega, by rw [add_ns]; omega⟩⟩
    simp only [List.mem_singleton] at hx
    subst hx
    exact p1.lower (Int.le_trans hb.2.1 (mono o0 hi e0))
   ·cases hr
  ·exact done hb hr
end
/-- A source's tokens are one behind the other. -/
theorem toks_srt {s : List UInt8} (h : (Toks s).2.2 = 0) : Srt (Toks s).1 := by
 obtain ⟨_, l, hl, hr⟩ := (Toks_rise s).2 h
 rw [hl]
 intro i j p q hij hp hq
 rcases Nat.lt_or_ge j l.length with h' | h'
 ·rw [List.getElem?_append_left (by omega)] at hp hq
  exact (hr j q hq).2.2.2 i p hij hp
 ·rw [List.getElem?_append_right h'] at hq
  have : j - l.length = 0 := by
   rcases Nat.eq_zero_or_pos (j - l.length) with h0 | h0
   ·exact h0
   ·rw [List.getElem?_eq_none (by simp; omega)] at hq; cases hq
  rw [this] at hq
  simp at hq
  subst hq
  rcases Nat.lt_or_ge i l.length with h0 | h0
  ·rw [List.getElem?_append_left h0] at hp
   exact (hr i p hp).2.2.1
  ·omega
theorem toks_2000 {s : List UInt8} (h : (Toks s).2.2 = 0) : s.length ≤ 2000 := by
 rcases Nat.lt_or_ge 2000 s.length with h' | h'
 ·rw [Toks, if_pos h'] at h; simp at h
 ·exact h'
/-- What a source's node is. -/
theorem progR_good {s : List UInt8} (h : (progR s).2.2 = 0) : (Toks s).2.2 = 0 ∧ (progR s).2.1 = 0 ∧ (∃ q, run (Toks s).1 (30 * (Toks s).1.length + 9) .program ps0 = some ((progR s).1, q) ∧ q.e = 0) := by
 unfold progR at h ⊢
 split at h
 ·rename_i h1; exact absurd h h1
 ·rename_i h1
  rw [if_neg h1]
  have h1' : (Toks s).2.2 = 0 := by simpa using h1
  obtain ⟨n, q, hq⟩ := prog_some h1'
  rw [hq] at h ⊢
  simp only at h ⊢
  split at h
  ·rename_i h2; exact absurd h h2
  ·rename_i h2
   rw [if_neg h2]
   exact ⟨h1', rfl, q, rfl, by simpa using h2⟩
theorem progR_bad {s : List UInt8} (h : (progR s).2.2 ≠ 0) : (progR s).1 = nd0 := by
 unfold progR at h ⊢
 split
 ·rfl
 ·rename_i h1
  rw [if_neg h1] at h
  have h1' : (Toks s).2.2 = 0 := by simpa using h1
  obtain ⟨n, q, hq⟩ := prog_some h1'
  rw [hq] at h ⊢
  simp only at h ⊢
  split
  ·rfl
  ·rename_i h2; rw [if_neg h2] at h; simp at h
theorem progR_pl {s : List UInt8} (h : (progR s).2.2 = 0) : ∃ lo, Pl (Toks s).1 lo (progR s).1 := by
 obtain ⟨h1, _, q, hq, he⟩ := progR_good h
 have hlen := Toks_len s
 have := toks_2000 h1
 exact ⟨_, (run_pl (toks_srt h1) _ (by omega) .program ps0 _ _ _ (toks_inv h1) (Int.le_refl _) hq he).1⟩
theorem progR_wd (s : List UInt8) : Wd (progR s).1 := by
 by_cases h : (progR s).2.2 = 0
 ·obtain ⟨lo, hl⟩ := progR_pl h; exact hl.wd
 ·rw [progR_bad h]; exact Wd.zero
end Go.Proofs.YtdohdncgjendkaaDoor
