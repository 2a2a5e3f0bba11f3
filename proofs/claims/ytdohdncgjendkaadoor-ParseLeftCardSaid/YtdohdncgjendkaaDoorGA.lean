/- The parser, plainly: what it does with tokens, with fuel. The parser's equations. The parser's small words. The parser's words: signs, keys, tokens of a kind. What is one deeper. Brackets; what has an end of its own; leaves. The parser's functions: a name's value; what begins with fun. The parser's functions: what begins with if, with let. The parser's functions: an exp. Is a word in a list? The parser's functions: a part of a sum. The parser's functions: sums. -/
import Derived.Test.YtdohdncgjendkaaDoorFA
import Derived.Test.YtdohdncgjendkaaDoorEC
set_option linter.unusedVariables false
set_option linter.unusedSimpArgs false
namespace Go.Proofs.YtdohdncgjendkaaDoor
open Abs Go.RowKit
abbrev Tok := Tk × Nat
def tk0 : Tok := (⟨0, [], 0⟩, 0)
inductive Nd where
 | mk (k : Int) (t : List UInt8) (n : Int) (a : Int) (ns : List (List UInt8)) (ks : List Nd)
def nd0 : Nd := .mk 0 [] 0 0 [] []
def Nd.k : Nd → Int
 | .mk k _ _ _ _ _ => k
def Nd.t : Nd → List UInt8
 | .mk _ t _ _ _ _ => t
def Nd.n : Nd → Int
 | .mk _ _ n _ _ _ => n
def Nd.a : Nd → Int
 | .mk _ _ _ a _ _ => a
def Nd.ns : Nd → List (List UInt8)
 | .mk _ _ _ _ ns _ => ns
def Nd.ks : Nd → List Nd
 | .mk _ _ _ _ _ ks => ks
def Nd.add : Nd → List Nd → Nd
 | .mk k t n a ns ks, xs => .mk k t n a ns (ks ++ xs)
def Nd.name : Nd → List UInt8 → Nd
 | .mk k t n a ns ks, x => .mk k t n a (ns ++ [x]) ks
def node (k a : Int) (t : List UInt8) (ks : List Nd) : Nd := .mk k t 0 a [] ks
/-- The parser's state: the next token, how deep, does a ; end the exp, the error's place, the error. -/
structure PS where
 at_ : Nat
 deep : Int
 flat : Bool
 bad : Int
 e : Int
section
variable (T : List Tok)
def look (s : PS) : Tok := if s.e ≠ 0 then tk0 else T.getD s.at_ tk0
def fail (c : Int) (s : PS) : PS := if s.e = 0 then { s with bad := ((look T s).2 : Int), e := c } else s
def takeS (s : PS) : PS := if s.e = 0 ∧ (look T s).1.k ≠ 0 then { s with at_ := s.at_ + 1 } else s
def isW (w : List UInt8) (s : PS) : Bool := ((look T s).1.k = 5 || (look T s).1.k = 6) && (look T s).1.t = w
def mayS (w : List UInt8) (s : PS) : PS := if isW T w s then takeS T s else s
def mustS (w : List UInt8) (s : PS) : PS := if isW T w s then takeS T s else fail T 14 s
def wordS (k : Int) (s : PS) : PS := if (look T s).1.k ≠ k then fail T 14 s else s
def mostS (n m : Int) (s : PS) : PS := if n ≥ m then fail T 16 s else s
inductive Fn where
 | tyapp | con | decltype | decl | letE | funE | branch | exp | cmp | sums (mul : Bool) | app | matchE | tryE | atom | pat | patom | program
 | tyLoop (n : Nd) | conLoop (n : Nd) (more : Bool) | namesLoop (n : Nd) | consLoop (n : Nd) (more : Bool) | sumLoop (mul : Bool) (n : Nd) | appLoop (bare : Bool) (n : Nd) | kidsLoop (n : Nd) (many : Nat)
 | matchLoop (n : Nd) (first : Bool) | patLoop (con : Bool) (n : Nd) | declLoop (n : Nd)
def wLet : List UInt8 := [108, 101, 116]
def wFun : List UInt8 := [102, 117, 110]
def wIf : List UInt8 := [105, 102]
def wThen : List UInt8 := [116, 104, 101, 110]
def wElse : List UInt8 := [101, 108, 115, 101]
def wIn : List UInt8 := [105, 110]
def wRec : List UInt8 := [114, 101, 99]
def wMatch : List UInt8 := [109, 97, 116, 99, 104]
def wWith : List UInt8 := [119, 105, 116, 104]
def wEnd : List UInt8 := [101, 110, 100]
def wTry : List UInt8 := [116, 114, 121]
def wRetry : List UInt8 := [114, 101, 116, 114, 121]
def wType : List UInt8 := [116, 121, 112, 101]
def wOf : List UInt8 := [111, 102]
def wDo : List UInt8 := [100, 111]
def wArrow : List UInt8 := [45, 62]
/-- What a key asks for: a kind, how many atoms. -/
def kindOf (w : List UInt8) : Int × Nat :=
 if w = [112, 114, 105, 110, 116] then (15, 1) else if w = [114, 97, 105, 115, 101] then (16, 1) else if w = [115, 112, 97, 119, 110] then (17, 1) else
 if w = [97, 116, 111, 109, 105, 99, 97, 108, 108, 121] then (18, 1) else if w = [116, 118, 97, 114] then (21, 1) else if w = [114, 101, 97, 100] then (22, 1) else
 if w = [119, 114, 105, 116, 101] then (23, 2) else if w = [111, 114, 101, 108, 115, 101] then (20, 2) else (0, 0)
def signsOf (mul : Bool) : List (List UInt8) := if mul then [[42], [47], [37]] else [[43], [45], [94]]
def leafK (k : Int) : Int := if k = 1 then 1 else if k = 2 then 2 else if k = 3 then 4 else if k = 4 then 5 else 0
def patK (k : Int) : Int := if k = 1 then 1 else if k = 3 then 4 else if k = 4 then 5 else 0
def leaf (f : Int → Int) (s : PS) : Nd × PS :=
 if f (look T s).1.k = 0 then (nd0, fail T 14 s) else (.mk (f (look T s).1.k) (look T s).1.t (look T s).1.n (look T s).2 [] [], takeS T s)
def begins (s : PS) : Bool := (look T s).1.k = 1 || (look T s).1.k = 2 || (look T s).1.k = 3 || (look T s).1.k = 4 || isW T [40] s || isW T wRetry s || isW T wMatch s || isW T wTry s
def patMore (s : PS) : Bool := isW T [95] s || isW T [40] s || (look T s).1.k = 3 || (look T s).1.k = 1 || (look T s).1.k = 4
/-- Something that is one deeper. -/
def inR (run : PS → Option (Nd × PS)) (s : PS) : Option (Nd × PS) :=
 let s := if s.deep ≥ 40 then fail T 15 s else s
 if s.e ≠ 0 then some (nd0, s) else match run { s with deep := s.deep + 1 } with
  | some (n, s) => some (n, { s with deep := s.deep - 1 })
  | none => none
def roundR (run : PS → Option (Nd × PS)) (s : PS) : Option (Nd × PS) :=
 match inR T run (mustS T [40] s) with
 | some (n, s) => some (n, mustS T [41] s)
 | none => none
def wholeR (run : PS → Option (Nd × PS)) (s : PS) : Option (Nd × PS) :=
 match inR T run { s with flat := false } with
 | some (n, s') => some (n, { s' with flat := s.flat })
 | none => none
/-- What a name is to mean: the name, is it rec, its value. -/
def valueR (exp : PS → Option (Nd × PS)) (s : PS) : Option ((List UInt8 × Bool × Nd) × PS) :=
 let rec_ := isW T wRec s
 let s := mayS T wRec s
 let s := wordS T 3 s
 let name := (look T s).1.t
 let s := takeS T s
 let s := mustS T [61] s
 let s := if rec_ && decide (s.deep < 40) && !isW T wFun s then fail T 14 s else s
 match inR T exp s with
 | some (v, s) => some ((name, rec_, v), s)
 | none => none
def run : Nat → Fn → PS → Option (Nd × PS)
 | 0, _, _ => none
 | f + 1, .tyapp, s =>
  let s := wordS T 3 s
  run f (.tyLoop (node 27 (look T s).2 (look T s).1.t [])) (takeS T s)
 | f + 1, .tyLoop n, s =>
  if (look T s).1.k = 3 then run f (.tyLoop (n.add [node 27 (look T s).2 (look T s).1.t []])) (takeS T s)
  else if isW T [40] s then match roundR T (run f .tyapp) s with
   | some (x, s) => run f (.tyLoop (n.add [x])) s
   | none => none
  else some (n, s)
 | f + 1, .con, s =>
  let s := wordS T 4 s
  let n := node 26 (look T s).2 (look T s).1.t []
  let s := takeS T s
  if isW T wOf s then run f (.conLoop n true) (mayS T wOf s) else some (n, s)
 | f + 1, .conLoop n more, s =>
  if more && decide (s.e = 0) then match inR T (run f .tyapp) (mostS T n.ks.length 4 s) with
   | some (x, s) => run f (.conLoop (n.add [x]) (isW T [44] s)) (mayS T [44] s)
   | none => none
  else some (n, s)
 | f + 1, .decltype, s =>
  let a := (look T s).2
  let s := wordS T 3 (takeS T s)
  match run f (.namesLoop (node 25 a (look T s).1.t [])) (takeS T s) with
  | some (n, s) => run f (.consLoop n true) (mustS T [61] s)
  | none => none
 | f + 1, .namesLoop n, s =>
  if (look T s).1.k = 3 then
   let s := mostS T n.ns.length 4 s
   run f (.namesLoop (n.name (look T s).1.t)) (takeS T s)
  else some (n, s)
 | f + 1, .consLoop n more, s =>
  if more && decide (s.e = 0) then match run f .con (mostS T n.ks.length 20 s) with
   | some (x, s) => run f (.consLoop (n.add [x]) (isW T [124] s)) (mayS T [124] s)
   | none => none
  else some (n, s)
 | f + 1, .decl, s =>
  if isW T wType s then match run f .decltype s with
   | some (n, s) => some (n, mustS T [59] s)
   | none => none
  else
   let a := (look T s).2
   match valueR T (run f .exp) { takeS T s with flat := true } with
   | some ((name, rec_, v), s) => some (node (if rec_ then 29 else 28) a name [v], mustS T [59] { s with flat := false })
   | none => none
 | f + 1, .letE, s =>
  let a := (look T s).2
  match valueR T (run f .exp) (takeS T s) with
  | some ((name, rec_, v), s) => match inR T (run f .exp) (mustS T wIn s) with
   | some (b, s) => some (node (if rec_ then 9 else 8) a name [v, b], s)
   | none => none
  | none => none
 | f + 1, .funE, s =>
  let a := (look T s).2
  let s := wordS T 3 (takeS T s)
  let name := (look T s).1.t
  match inR T (run f .exp) (mustS T wArrow (takeS T s)) with
  | some (b, s) => some (node 6 a name [b], s)
  | none => none
 | f + 1, .branch, s =>
  let a := (look T s).2
  match inR T (run f .exp) (takeS T s) with
  | some (x, s) => match inR T (run f .exp) (mustS T wThen s) with
   | some (y, s) => match inR T (run f .exp) (mustS T wElse s) with
    | some (z, s) => some (node 10 a [] [x, y, z], s)
    | none => none
   | none => none
  | none => none
 | f + 1, .exp, s =>
  if (look T s).1.k = 6 ∧ (look T s).1.t = wLet then run f .letE s
  else if (look T s).1.k = 6 ∧ (look T s).1.t = wFun then run f .funE s
  else if (look T s).1.k = 6 ∧ (look T s).1.t = wIf then run f .branch s
  else match run f .cmp s with
   | some (n, s) => if !s.flat && isW T [59] s then match inR T (run f .exp) (mayS T [59] s) with
     | some (m, s) => some (node 14 n.a [] [n, m], s)
     | none => none
    else some (n, s)
   | none => none
 | f + 1, .cmp, s => match run f (.sums false) s with
  | some (n, s) => if isW T [61] s || isW T [60] s then
    let w := (look T s).1.t
    match run f (.sums false) (takeS T s) with
    | some (m, s) => some (node 13 n.a w [n, m], s)
    | none => none
   else some (n, s)
  | none => none
 | f + 1, .sums mul, s => match run f (if mul then .app else .sums true) s with
  | some (n, s) => run f (.sumLoop mul n) s
  | none => none
 | f + 1, .sumLoop mul n, s =>
  if (look T s).1.k = 5 ∧ (look T s).1.t ∈ signsOf mul then
   let w := (look T s).1.t
   match run f (if mul then .app else .sums true) (takeS T s) with
   | some (m, s) => run f (.sumLoop mul (node 13 n.a w [n, m])) s
   | none => none
  else some (n, s)
 | f + 1, .app, s =>
  if (look T s).1.k = 6 ∧ (kindOf (look T s).1.t).1 > 0 then
   run f (.kidsLoop (node (kindOf (look T s).1.t).1 (look T s).2 [] []) (kindOf (look T s).1.t).2) (takeS T s)
  else
   let bare := decide ((look T s).1.k = 4)
   match run f .atom s with
   | some (n, s) => run f (.appLoop bare n) s
   | none => none
 | f + 1, .kidsLoop n many, s => match many with
  | 0 => some (n, s)
  | many + 1 => match run f .atom s with
   | some (x, s) => run f (.kidsLoop (n.add [x]) many) s
   | none => none
 | f + 1, .appLoop bare n, s =>
  if begins T s then
   if bare then match run f .atom (mostS T n.ks.length 4 s) with
    | some (x, s) => run f (.appLoop bare (n.add [x])) s
    | none => none
   else match run f .atom s with
    | some (x, s) => run f (.appLoop bare (node 7 n.a [] [n, x])) s
    | none => none
  else some (n, s)
 | f + 1, .matchE, s =>
  let a := (look T s).2
  match wholeR T (run f .exp) (takeS T s) with
  | some (x, s) => match run f (.matchLoop (node 11 a [] [x]) true) (mustS T wWith s) with
   | some (n, s) => some (n, mustS T wEnd s)
   | none => none
  | none => none
 | f + 1, .matchLoop n first, s =>
  if first || isW T [124] s then
   match inR T (run f .pat) (mustS T [124] (mostS T ((n.ks.length / 2 : Nat) : Int) 20 s)) with
   | some (p, s) => match wholeR T (run f .exp) (mustS T wArrow s) with
    | some (x, s) => run f (.matchLoop (n.add [p, x]) false) s
    | none => none
   | none => none
  else some (n, s)
 | f + 1, .tryE, s =>
  let a := (look T s).2
  match wholeR T (run f .exp) (takeS T s) with
  | some (x, s) =>
   let s := wordS T 3 (mustS T wWith s)
   let name := (look T s).1.t
   match wholeR T (run f .exp) (mustS T wArrow (takeS T s)) with
   | some (y, s) => some (node 12 a name [x, y], mustS T wEnd s)
   | none => none
  | none => none
 | f + 1, .atom, s =>
  if isW T wMatch s then run f .matchE s
  else if isW T wTry s then run f .tryE s
  else if isW T wRetry s then some (node 19 (look T s).2 [] [], takeS T s)
  else if isW T [40] s then
   let a := (look T s).2
   let s := takeS T s
   if isW T [41] s then some (node 3 a [] [], mayS T [41] s)
   else match wholeR T (run f .exp) s with
    | some (n, s) => some (n, mustS T [41] s)
    | none => none
  else some (leaf T leafK s)
 | f + 1, .pat, s =>
  let c := decide ((look T s).1.k = 4)
  match run f .patom s with
  | some (n, s) => run f (.patLoop c n) s
  | none => none
 | f + 1, .patLoop c n, s =>
  if c && patMore T s then match run f .patom (mostS T n.ks.length 4 s) with
   | some (x, s) => run f (.patLoop c (n.add [x])) s
   | none => none
  else some (n, s)
 | f + 1, .patom, s =>
  if isW T [95] s then some (node 24 (look T s).2 [] [], mayS T [95] s)
  else if isW T [40] s then roundR T (run f .pat) s
  else some (leaf T patK s)
 | f + 1, .program, s => match run f (.declLoop (node 30 (look T s).2 [] [])) s with
  | some (n, s) => match inR T (run f .exp) (mustS T wDo s) with
   | some (x, s) => some (n.add [x], if (look T s).1.k ≠ 0 then fail T 14 s else s)
   | none => none
  | none => none
 | f + 1, .declLoop n, s =>
  if isW T wType s || isW T wLet s then match run f .decl (mostS T n.ks.length 60 s) with
   | some (x, s) => run f (.declLoop (n.add [x])) s
   | none => none
  else some (n, s)
end
section
variable (T : List Tok) (f : Nat) (s : PS)
theorem run_tyapp  : run T (f + 1) .tyapp s = (
    let s := wordS T 3 s
    run T f (.tyLoop (node 27 (look T s).2 (look T s).1.t [])) (takeS T s)) := by kernel_rfl
theorem run_tyLoop (n : Nd) : run T (f + 1) (.tyLoop n) s = (
    if (look T s).1.k = 3 then run T f (.tyLoop (n.add [node 27 (look T s).2 (look T s).1.t []])) (takeS T s)
    else if isW T [40] s then match roundR T (run T f .tyapp) s with
      | some (x, s) => run T f (.tyLoop (n.add [x])) s
      | none => none
    else some (n, s)) := by kernel_rfl
theorem run_con  : run T (f + 1) .con s = (
    let s := wordS T 4 s
    let n := node 26 (look T s).2 (look T s).1.t []
    let s := takeS T s
    if isW T wOf s then run T f (.conLoop n true) (mayS T wOf s) else some (n, s)) := by kernel_rfl
theorem run_conLoop (n : Nd) (more : Bool) : run T (f + 1) (.conLoop n more) s = (
    if more && decide (s.e = 0) then match inR T (run T f .tyapp) (mostS T n.ks.length 4 s) with
      | some (x, s) => run T f (.conLoop (n.add [x]) (isW T [44] s)) (mayS T [44] s)
      | none => none
    else some (n, s)) := by kernel_rfl
theorem run_decltype  : run T (f + 1) .decltype s = (
    let a := (look T s).2
    let s := wordS T 3 (takeS T s)
    match run T f (.namesLoop (node 25 a (look T s).1.t [])) (takeS T s) with
    | some (n, s) => run T f (.consLoop n true) (mustS T [61] s)
    | none => none) := by kernel_rfl
theorem run_namesLoop (n : Nd) : run T (f + 1) (.namesLoop n) s = (
    if (look T s).1.k = 3 then
      let s := mostS T n.ns.length 4 s
      run T f (.namesLoop (n.name (look T s).1.t)) (takeS T s)
    else some (n, s)) := by kernel_rfl
theorem run_consLoop (n : Nd) (more : Bool) : run T (f + 1) (.consLoop n more) s = (
    if more && decide (s.e = 0) then match run T f .con (mostS T n.ks.length 20 s) with
      | some (x, s) => run T f (.consLoop (n.add [x]) (isW T [124] s)) (mayS T [124] s)
      | none => none
    else some (n, s)) := by kernel_rfl
theorem run_decl  : run T (f + 1) .decl s = (
    if isW T wType s then match run T f .decltype s with
      | some (n, s) => some (n, mustS T [59] s)
      | none => none
    else
      let a := (look T s).2
      match valueR T (run T f .exp) { takeS T s with flat := true } with
      | some ((name, rec_, v), s) => some (node (if rec_ then 29 else 28) a name [v], mustS T [59] { s with flat := false })
      | none => none) := by kernel_rfl
theorem run_letE  : run T (f + 1) .letE s = (
    let a := (look T s).2
    match valueR T (run T f .exp) (takeS T s) with
    | some ((name, rec_, v), s) => match inR T (run T f .exp) (mustS T wIn s) with
      | some (b, s) => some (node (if rec_ then 9 else 8) a name [v, b], s)
      | none => none
    | none => none) := by kernel_rfl
theorem run_funE  : run T (f + 1) .funE s = (
    let a := (look T s).2
    let s := wordS T 3 (takeS T s)
    let name := (look T s).1.t
    match inR T (run T f .exp) (mustS T wArrow (takeS T s)) with
    | some (b, s) => some (node 6 a name [b], s)
    | none => none) := by kernel_rfl
theorem run_branch  : run T (f + 1) .branch s = (
    let a := (look T s).2
    match inR T (run T f .exp) (takeS T s) with
    | some (x, s) => match inR T (run T f .exp) (mustS T wThen s) with
      | some (y, s) => match inR T (run T f .exp) (mustS T wElse s) with
        | some (z, s) => some (node 10 a [] [x, y, z], s)
        | none => none
      | none => none
    | none => none) := by kernel_rfl
theorem run_exp  : run T (f + 1) .exp s = (
    if (look T s).1.k = 6 ∧ (look T s).1.t = wLet then run T f .letE s
    else if (look T s).1.k = 6 ∧ (look T s).1.t = wFun then run T f .funE s
    else if (look T s).1.k = 6 ∧ (look T s).1.t = wIf then run T f .branch s
    else match run T f .cmp s with
      | some (n, s) => if !s.flat && isW T [59] s then match inR T (run T f .exp) (mayS T [59] s) with
          | some (m, s) => some (node 14 n.a [] [n, m], s)
          | none => none
        else some (n, s)
      | none => none) := by kernel_rfl
theorem run_cmp  : run T (f + 1) .cmp s = (
 match run T f (.sums false) s with
    | some (n, s) => if isW T [61] s || isW T [60] s then
        let w := (look T s).1.t
        match run T f (.sums false) (takeS T s) with
        | some (m, s) => some (node 13 n.a w [n, m], s)
        | none => none
      else some (n, s)
    | none => none) := by kernel_rfl
theorem run_sums (mul : Bool) : run T (f + 1) (.sums mul) s = (
 match run T f (if mul then .app else .sums true) s with
    | some (n, s) => run T f (.sumLoop mul n) s
    | none => none) := by kernel_rfl
theorem run_sumLoop (mul : Bool) (n : Nd) : run T (f + 1) (.sumLoop mul n) s = (
    if (look T s).1.k = 5 ∧ (look T s).1.t ∈ signsOf mul then
      let w := (look T s).1.t
      match run T f (if mul then .app else .sums true) (takeS T s) with
      | some (m, s) => run T f (.sumLoop mul (node 13 n.a w [n, m])) s
      | none => none
    else some (n, s)) := by kernel_rfl
theorem run_app  : run T (f + 1) .app s = (
    if (look T s).1.k = 6 ∧ (kindOf (look T s).1.t).1 > 0 then
      run T f (.kidsLoop (node (kindOf (look T s).1.t).1 (look T s).2 [] []) (kindOf (look T s).1.t).2) (takeS T s)
    else
      let bare := decide ((look T s).1.k = 4)
      match run T f .atom s with
      | some (n, s) => run T f (.appLoop bare n) s
      | none => none) := by kernel_rfl
theorem run_kidsLoop (n : Nd) (many : Nat) : run T (f + 1) (.kidsLoop n many) s = (
 match many with
    | 0 => some (n, s)
    | many + 1 => match run T f .atom s with
      | some (x, s) => run T f (.kidsLoop (n.add [x]) many) s
      | none => none) := by kernel_rfl
theorem run_appLoop (bare : Bool) (n : Nd) : run T (f + 1) (.appLoop bare n) s = (
    if begins T s then
      if bare then match run T f .atom (mostS T n.ks.length 4 s) with
        | some (x, s) => run T f (.appLoop bare (n.add [x])) s
        | none => none
      else match run T f .atom s with
        | some (x, s) => run T f (.appLoop bare (node 7 n.a [] [n, x])) s
        | none => none
    else some (n, s)) := by kernel_rfl
theorem run_matchE  : run T (f + 1) .matchE s = (
    let a := (look T s).2
    match wholeR T (run T f .exp) (takeS T s) with
    | some (x, s) => match run T f (.matchLoop (node 11 a [] [x]) true) (mustS T wWith s) with
      | some (n, s) => some (n, mustS T wEnd s)
      | none => none
    | none => none) := by kernel_rfl
theorem run_matchLoop (n : Nd) (first : Bool) : run T (f + 1) (.matchLoop n first) s = (
    if first || isW T [124] s then
      match inR T (run T f .pat) (mustS T [124] (mostS T ((n.ks.length / 2 : Nat) : Int) 20 s)) with
      | some (p, s) => match wholeR T (run T f .exp) (mustS T wArrow s) with
        | some (x, s) => run T f (.matchLoop (n.add [p, x]) false) s
        | none => none
      | none => none
    else some (n, s)) := by kernel_rfl
theorem run_tryE  : run T (f + 1) .tryE s = (
    let a := (look T s).2
    match wholeR T (run T f .exp) (takeS T s) with
    | some (x, s) =>
      let s := wordS T 3 (mustS T wWith s)
      let name := (look T s).1.t
      match wholeR T (run T f .exp) (mustS T wArrow (takeS T s)) with
      | some (y, s) => some (node 12 a name [x, y], mustS T wEnd s)
      | none => none
    | none => none) := by kernel_rfl
theorem run_atom  : run T (f + 1) .atom s = (
    if isW T wMatch s then run T f .matchE s
    else if isW T wTry s then run T f .tryE s
    else if isW T wRetry s then some (node 19 (look T s).2 [] [], takeS T s)
    else if isW T [40] s then
      let a := (look T s).2
      let s := takeS T s
      if isW T [41] s then some (node 3 a [] [], mayS T [41] s)
      else match wholeR T (run T f .exp) s with
        | some (n, s) => some (n, mustS T [41] s)
        | none => none
    else some (leaf T leafK s)) := by kernel_rfl
theorem run_pat  : run T (f + 1) .pat s = (
    let c := decide ((look T s).1.k = 4)
    match run T f .patom s with
    | some (n, s) => run T f (.patLoop c n) s
    | none => none) := by kernel_rfl
theorem run_patLoop (c : Bool) (n : Nd) : run T (f + 1) (.patLoop c n) s = (
    if c && patMore T s then match run T f .patom (mostS T n.ks.length 4 s) with
      | some (x, s) => run T f (.patLoop c (n.add [x])) s
      | none => none
    else some (n, s)) := by kernel_rfl
theorem run_patom  : run T (f + 1) .patom s = (
    if isW T [95] s then some (node 24 (look T s).2 [] [], mayS T [95] s)
    else if isW T [40] s then roundR T (run T f .pat) s
    else some (leaf T patK s)) := by kernel_rfl
theorem run_program  : run T (f + 1) .program s = (
 match run T f (.declLoop (node 30 (look T s).2 [] [])) s with
    | some (n, s) => match inR T (run T f .exp) (mustS T wDo s) with
      | some (x, s) => some (n.add [x], if (look T s).1.k ≠ 0 then fail T 14 s else s)
      | none => none
    | none => none) := by kernel_rfl
theorem run_declLoop (n : Nd) : run T (f + 1) (.declLoop n) s = (
    if isW T wType s || isW T wLet s then match run T f .decl (mostS T n.ks.length 60 s) with
      | some (x, s) => run T f (.declLoop (n.add [x])) s
      | none => none
    else some (n, s)) := by kernel_rfl
end
def pcell (o : Own) (T : List Tok) (s : PS) : AObj := .cells [.slice o (T.map tkV), .int .i64 (s.at_ : Int), .int .i64 s.deep, .bool s.flat, .int .i64 s.bad, .int .i64 s.e]
/-- The tokens end with the end, and the next one is there. -/
structure Inv (T : List Tok) (s : PS) : Prop where
 lt : s.at_ < T.length
 end_ : ∀ (i : Nat) (t : Tok), T[i]? = some t → t.1.k ≠ 0 → i + 1 < T.length
 len : T.length < 4294967281
 deep : 0 ≤ s.deep
/-- What a word of the parser's does: its answer, its state. -/
def PK (p : Nat) (o : Own) (T : List Tok) (h : Hp) (c : Nat) (d : List (Nat × List AV)) (val : AV) (s' : PS) : AV → ASt → Prop := fun v st =>
 v = val ∧ ∃ h' c', st = ⟨h', c', d⟩ ∧ Fr h c h' c' [p] ∧ h' p = some (pcell o T s')
theorem look_real {T : List Tok} {s : PS} (hi : Inv T s) (he : s.e = 0) : T[s.at_]? = some (look T s) := by
 rw [look, if_neg (by simp [he]), List.getD_eq_getElem?_getD, List.getElem?_eq_getElem hi.lt]; rfl
theorem Inv.same {T : List Tok} {s s' : PS} (hi : Inv T s) (h : s'.at_ = s.at_) (h' : s'.deep = s.deep) : Inv T s' := ⟨by rw [h]; exact hi.lt, hi.end_, hi.len, by rw [h']; exact hi.deep⟩
theorem Inv.fail {T : List Tok} {s : PS} (hi : Inv T s) (c : Int) : Inv T (fail T c s) := by
 unfold Go.Proofs.YtdohdncgjendkaaDoor.fail; split
 ·exact hi.same rfl rfl
 ·exact hi
theorem Inv.take {T : List Tok} {s : PS} (hi : Inv T s) : Inv T (takeS T s) := by
 unfold takeS; split
 ·rename_i h1
  exact ⟨hi.end_ _ _ (look_real hi h1.1) h1.2, hi.end_, hi.len, hi.deep⟩
 ·exact hi
section
variable {T : List Tok} {s : PS} {p c : Nat} {o : Own} {h : Hp} {d : List (Nat × List AV)}
theorem look_call (hi : Inv T s) (hp : h p = some (pcell o T s)) (hpc : p < c) : Does X 29 [.ptr p 0] ⟨h, c, d⟩ (PK p o T h c d (tkV (look T s)) s) := by
 refine call_aw b29 rfl rfl rfl ?_; delta b29
 have hu : ∀ x, upd h c x p = h p := fun x => upd_ne h x (by omega)
 have hF : Fr h c (upd h c (.cells zeroT)) (c + 1) [p] := (Fr.refl _ _ _).upd _ (.inr (Nat.le_refl _)) (Nat.le_succ _)
 by_cases he : s.e = 0
 ·have hd : decide (¬ s.e = 0) = false := by simpa using he
  have hl := look_real hi he
  generalize look T s = t at hl
  simp -dsimp -implicitDefEqProofs only [go_sem, Nat.reduceAdd, Nat.reduceEqDiff, reduceIte, reduceCtorEq, Nat.reduceLeDiff, Nat.reduceLT, Nat.reduceSub, Int.reduceEq, Int.reduceLT, OpK_alloc, preH, hu, hp, pcell, hd, CondV_false, hl, elemA, tkV, tokC, ldCells]
  exact ⟨rfl, _, _, rfl, (Fr.refl _ _ _).upd _ (.inr (Nat.le_refl _)) (Nat.le_succ _), by rw [upd_ne _ _ (by omega), hp, pcell]⟩
 ·have hd : decide (¬ s.e = 0) = true := by simpa using he
  have hl : look T s = tk0 := by rw [look, if_pos he]
  rw [hl]
  simp -dsimp -implicitDefEqProofs only [go_sem, Nat.reduceAdd, Nat.reduceEqDiff, reduceIte, reduceCtorEq, Nat.reduceLeDiff, Nat.reduceLT, Nat.reduceSub, Int.reduceEq, Int.reduceLT, OpK_alloc, preH, hu, hp, pcell, hd, CondV_true, fillV, ldCells]
  exact ⟨rfl, _, _, rfl, (Fr.refl _ _ _).upd _ (.inr (Nat.le_refl _)) (Nat.le_succ _), by rw [upd_ne _ _ (by omega), hp, pcell]⟩
theorem fail_call (hi : Inv T s) (hp : h p = some (pcell o T s)) (hpc : p < c) (k : Int) : Does X 36 [.ptr p 0, .int .i64 k] ⟨h, c, d⟩ (PK p o T h c d (.tuple []) (fail T k s)) := by
 refine call_aw b36 rfl rfl rfl ?_; delta b36
 by_cases he : s.e = 0
 ·have hd : decide (s.e = 0) = true := by simpa using he
  simp -dsimp -implicitDefEqProofs only [go_sem, Nat.reduceAdd, Nat.reduceEqDiff, reduceIte, reduceCtorEq, Nat.reduceLeDiff, Nat.reduceLT, Nat.reduceSub, Int.reduceEq, Int.reduceLT, hp, pcell, hd]
  refine DoesK_of (look_call hi hp hpc) ?_
  rintro v st ⟨rfl, h1, c1, rfl, f1, hp1⟩
  have hf : fail T k s = { s with bad := ((look T s).2 : Int), e := k } := by rw [fail, if_pos he]
  rw [hf]
  simp -dsimp -implicitDefEqProofs only [go_sem, Nat.reduceAdd, Nat.reduceEqDiff, reduceIte, reduceCtorEq, Nat.reduceLeDiff, Nat.reduceLT, Nat.reduceSub, Int.reduceEq, Int.reduceLT, tkV, tokC, fldV, ldCells, hp1, pcell]
  exact ⟨rfl, _, _, rfl, f1.upd _ (.inl (by simp)) (Nat.le_refl _), by rw [upd_same, pcell]⟩
 ·have hd : decide (s.e = 0) = false := by simpa using he
  have hf : fail T k s = s := by rw [fail, if_neg he]
  rw [hf]
  simp -dsimp -implicitDefEqProofs only [go_sem, Nat.reduceAdd, Nat.reduceEqDiff, reduceIte, reduceCtorEq, Nat.reduceLeDiff, Nat.reduceLT, Nat.reduceSub, Int.reduceEq, Int.reduceLT, hp, pcell, hd, CondV_false]
  exact ⟨rfl, _, _, rfl, Fr.refl _ _ _, by rw [hp, pcell]⟩
theorem take_call (hi : Inv T s) (hp : h p = some (pcell o T s)) (hpc : p < c) : Does X 49 [.ptr p 0] ⟨h, c, d⟩ (PK p o T h c d (tkV (look T s)) (takeS T s)) := by
 refine call_aw b49 rfl rfl rfl ?_; delta b49
 have hpc1 : p < c + 1 + 1 := by omega
 simp -dsimp -implicitDefEqProofs only [go_sem, Nat.reduceAdd, Nat.reduceEqDiff, reduceIte, reduceCtorEq, Nat.reduceLeDiff, Nat.reduceLT, Nat.reduceSub, Int.reduceEq, Int.reduceLT, OpK_alloc, preH]
 refine DoesK_of (look_call (s := s) hi (p := p) (o := o) (by rw [upd_ne _ _ (by omega), upd_ne _ _ (by omega)]; exact hp) hpc1) ?_
 rintro v st ⟨rfl, h1, c1, rfl, f1, hp1⟩
 have z0 : h1 c = some (.cells zeroT) := (f1.at (by omega) (by simp; omega)).trans (by rw [upd_ne _ _ (by omega), upd_same]; rfl)
 have z1 : h1 (c + 1) = some (.cells zeroT) := (f1.at (by omega) (by simp; omega)).trans (by rw [upd_same]; rfl)
 have n1 : p ≠ c := by omega
 have n2 : p ≠ c + 1 := by omega
 have u1 : ∀ h x, upd h (c + 1) x p = h p := fun h x => upd_ne h x n2
 have u2 : ∀ h x, upd h (c + 1) x c = h c := fun h x => upd_ne h x (by omega)
 have u3 : ∀ h x, upd h p x c = h c := fun h x => upd_ne h x (Ne.symm n1)
 have u4 : ∀ h x, upd h p x (c + 1) = h (c + 1) := fun h x => upd_ne h x (Ne.symm n2)
 have hF : Fr h c h1 c1 [p] := (((Fr.refl h c [p]).upd _ (.inr (Nat.le_refl _)) (Nat.le_succ _)).upd _ (.inr (Nat.le_succ _)) (Nat.le_succ _)).trans f1 (by simp)
 by_cases ht : s.e = 0 ∧ (look T s).1.k ≠ 0
 ·have hT : takeS T s = { s with at_ := s.at_ + 1 } := by rw [takeS, if_pos ht]
  have d1 : decide (s.e = 0) = true := by simpa using ht.1
  have d2 : decide (¬ (look T s).1.k = 0) = true := by simpa using ht.2
  have w : IntKind.wrap .i64 ((s.at_ : Int) + 1) = ((s.at_ + 1 : Nat) : Int) := by have := hi.lt; have := hi.len; rw [wrap_i64 (by omega) (by omega)]; omega
  rw [hT]
  simp -dsimp -implicitDefEqProofs only [go_sem, Nat.reduceAdd, Nat.reduceEqDiff, reduceIte, reduceCtorEq, Nat.reduceLeDiff, Nat.reduceLT, Nat.reduceSub, Int.reduceEq, Int.reduceLT, OpK_alloc, z0, z1, zeroT, tkV, tokC, ldCells, u1, u2, u3, u4, hp1, pcell, d1, d2, CondV_true, w]
  exact ⟨rfl, _, _, rfl, ((hF.upd _ (.inr (Nat.le_succ _)) (Nat.le_refl _)).upd _ (.inl (by simp)) (Nat.le_refl _)).upd _ (.inr (Nat.le_refl _)) (Nat.le_refl _), by rw [upd_ne _ _ n1, upd_same, pcell]⟩
 ·have hT : takeS T s = s := by rw [takeS, if_neg ht]
  rw [hT]
  by_cases he : s.e = 0
  ·have d1 : decide (s.e = 0) = true := by simpa using he
   have d2 : decide (¬ (look T s).1.k = 0) = false := by simp; exact Classical.byContradiction fun hk => ht ⟨he, hk⟩
   simp -dsimp -implicitDefEqProofs only [go_sem, Nat.reduceAdd, Nat.reduceEqDiff, reduceIte, reduceCtorEq, Nat.reduceLeDiff, Nat.reduceLT, Nat.reduceSub, Int.reduceEq, Int.reduceLT, OpK_alloc, z0, z1, zeroT, tkV, tokC, ldCells, u1, u2, u3, u4, hp1, pcell, d1, d2]
   exact ⟨rfl, _, _, rfl, (hF.upd _ (.inr (Nat.le_succ _)) (Nat.le_refl _)).upd _ (.inr (Nat.le_refl _)) (Nat.le_refl _), by rw [upd_ne _ _ n1, upd_ne _ _ n2, hp1, pcell]⟩
  ·have d1 : decide (s.e = 0) = false := by simpa using he
   simp -dsimp -implicitDefEqProofs only [go_sem, Nat.reduceAdd, Nat.reduceEqDiff, reduceIte, reduceCtorEq, Nat.reduceLeDiff, Nat.reduceLT, Nat.reduceSub, Int.reduceEq, Int.reduceLT, OpK_alloc, z0, z1, zeroT, tkV, tokC, ldCells, u1, u2, u3, u4, hp1, pcell, d1]
   exact ⟨rfl, _, _, rfl, (hF.upd _ (.inr (Nat.le_succ _)) (Nat.le_refl _)).upd _ (.inr (Nat.le_refl _)) (Nat.le_refl _), by rw [upd_ne _ _ n1, upd_ne _ _ n2, hp1, pcell]⟩
end
theorem Inv.may {T : List Tok} {s : PS} (hi : Inv T s) (w : List UInt8) : Inv T (mayS T w s) := by
 unfold mayS; split
 ·exact hi.take
 ·exact hi
theorem Inv.must {T : List Tok} {s : PS} (hi : Inv T s) (w : List UInt8) : Inv T (mustS T w s) := by
 unfold mustS; split
 ·exact hi.take
 ·exact hi.fail _
theorem Inv.word {T : List Tok} {s : PS} (hi : Inv T s) (k : Int) : Inv T (wordS T k s) := by
 unfold wordS; split
 ·exact hi.fail _
 ·exact hi
theorem Inv.most {T : List Tok} {s : PS} (hi : Inv T s) (n m : Int) : Inv T (mostS T n m s) := by
 unfold mostS; split
 ·exact hi.fail _
 ·exact hi
section
variable {T : List Tok} {s : PS} {p c : Nat} {o : Own} {h : Hp} {d : List (Nat × List AV)}
theorem isw_call (hi : Inv T s) (hp : h p = some (pcell o T s)) (hpc : p < c) (w : List UInt8) : Does X 30 [.ptr p 0, .str w] ⟨h, c, d⟩ (PK p o T h c d (.bool (isW T w s)) s) := by
 refine call_aw b30 rfl rfl rfl ?_; delta b30
 simp -dsimp -implicitDefEqProofs only [go_sem, Nat.reduceAdd, Nat.reduceEqDiff, reduceIte, reduceCtorEq, Nat.reduceLeDiff, Nat.reduceLT, Nat.reduceSub, Int.reduceEq, Int.reduceLT, preH]
 refine DoesK_of (look_call (s := s) hi (p := p) (o := o) (by rw [upd_ne _ _ (by omega)]; exact hp) (by omega)) ?_
 rintro v st ⟨rfl, h1, c1, rfl, f1, hp1⟩
 have z0 : h1 c = some (.cells zeroT) := (f1.at (by omega) (by simp; omega)).trans (upd_same _ _ _)
 have hF : Fr h c h1 c1 [p] := ((Fr.refl h c [p]).upd _ (.inr (Nat.le_refl _)) (Nat.le_succ _)).trans f1 (by simp)
 have fin : ∀ x, Fr h c (upd h1 c x) c1 [p] ∧ upd h1 c x p = some (pcell o T s) := fun x => ⟨hF.upd _ (.inr (Nat.le_refl _)) (Nat.le_refl _), by rw [upd_ne _ _ (by omega), hp1]⟩
 rw [isW]
 generalize look T s = t at *
 obtain ⟨⟨k, t, n⟩, a⟩ := t
 cases h1 : decide (k = 5) with
 | true =>
  simp -dsimp -implicitDefEqProofs only [go_sem, Nat.reduceAdd, Nat.reduceEqDiff, reduceIte, reduceCtorEq, Nat.reduceLeDiff, Nat.reduceLT, Nat.reduceSub, Int.reduceEq, Int.reduceLT, OpK_alloc, z0, zeroT, tkV, tokC, ldCells, h1, Bool.true_or, Bool.true_and]
  exact ⟨rfl, _, _, rfl, fin _⟩
 | false =>
  cases h2 : decide (k = 6) with
  | true =>
   simp -dsimp -implicitDefEqProofs only [go_sem, Nat.reduceAdd, Nat.reduceEqDiff, reduceIte, reduceCtorEq, Nat.reduceLeDiff, Nat.reduceLT, Nat.reduceSub, Int.reduceEq, Int.reduceLT, OpK_alloc, z0, zeroT, tkV, tokC, ldCells, h1, h2, Bool.or_true, Bool.true_and]
   exact ⟨rfl, _, _, rfl, fin _⟩
  | false =>
   simp -dsimp -implicitDefEqProofs only [go_sem, Nat.reduceAdd, Nat.reduceEqDiff, reduceIte, reduceCtorEq, Nat.reduceLeDiff, Nat.reduceLT, Nat.reduceSub, Int.reduceEq, Int.reduceLT, OpK_alloc, z0, zeroT, tkV, tokC, ldCells, h1, h2, Bool.or_false, Bool.false_and]
   exact ⟨rfl, _, _, rfl, fin _⟩
theorem may_call (hi : Inv T s) (hp : h p = some (pcell o T s)) (hpc : p < c) (w : List UInt8) : Does X 51 [.ptr p 0, .str w] ⟨h, c, d⟩ (PK p o T h c d (.bool (isW T w s)) (mayS T w s)) := by
 refine call_aw b51 rfl rfl rfl ?_; delta b51
 simp -dsimp -implicitDefEqProofs only [go_sem, Nat.reduceAdd, Nat.reduceEqDiff, reduceIte, reduceCtorEq, Nat.reduceLeDiff, Nat.reduceLT, Nat.reduceSub, Int.reduceEq, Int.reduceLT]
 refine DoesK_of (isw_call hi hp hpc w) ?_
 rintro v st ⟨rfl, h1, c1, rfl, f1, hp1⟩
 simp -dsimp -implicitDefEqProofs only [go_sem, Nat.reduceAdd, Nat.reduceEqDiff, reduceIte, reduceCtorEq, Nat.reduceLeDiff, Nat.reduceLT, Nat.reduceSub, Int.reduceEq, Int.reduceLT]
 rw [mayS]
 refine CondV_split (fun hq => ?_) fun hq => ?_
 ·rw [if_pos hq]
  simp -dsimp -implicitDefEqProofs only [go_sem, Nat.reduceAdd, Nat.reduceEqDiff, reduceIte, reduceCtorEq, Nat.reduceLeDiff, Nat.reduceLT, Nat.reduceSub, Int.reduceEq, Int.reduceLT]
  refine DoesK_of (take_call hi hp1 (Nat.lt_of_lt_of_le hpc f1.le)) ?_
  rintro v st ⟨rfl, h2, c2, rfl, f2, hp2⟩
  simp -dsimp -implicitDefEqProofs only [go_sem, Nat.reduceAdd, Nat.reduceEqDiff, reduceIte, reduceCtorEq, Nat.reduceLeDiff, Nat.reduceLT, Nat.reduceSub, Int.reduceEq, Int.reduceLT]
  exact ⟨rfl, _, _, rfl, f1.trans f2 (by simp), hp2⟩
 ·rw [if_neg (by simp [hq])]
  simp -dsimp -implicitDefEqProofs only [go_sem, Nat.reduceAdd, Nat.reduceEqDiff, reduceIte, reduceCtorEq, Nat.reduceLeDiff, Nat.reduceLT, Nat.reduceSub, Int.reduceEq, Int.reduceLT]
  exact ⟨rfl, _, _, rfl, f1, hp1⟩
theorem must_call (hi : Inv T s) (hp : h p = some (pcell o T s)) (hpc : p < c) (w : List UInt8) : Does X 33 [.ptr p 0, .str w] ⟨h, c, d⟩ (PK p o T h c d (.tuple []) (mustS T w s)) := by
 refine call_aw b33 rfl rfl rfl ?_; delta b33
 simp -dsimp -implicitDefEqProofs only [go_sem, Nat.reduceAdd, Nat.reduceEqDiff, reduceIte, reduceCtorEq, Nat.reduceLeDiff, Nat.reduceLT, Nat.reduceSub, Int.reduceEq, Int.reduceLT]
 refine DoesK_of (may_call hi hp hpc w) ?_
 rintro v st ⟨rfl, h1, c1, rfl, f1, hp1⟩
 simp -dsimp -implicitDefEqProofs only [go_sem, Nat.reduceAdd, Nat.reduceEqDiff, reduceIte, reduceCtorEq, Nat.reduceLeDiff, Nat.reduceLT, Nat.reduceSub, Int.reduceEq, Int.reduceLT]
 have hm : mustS T w s = if isW T w s then mayS T w s else fail T 14 (mayS T w s) := by
  simp only [mustS, mayS]; split <;> rfl
 rw [hm]
 refine CondV_split (fun hq => ?_) fun hq => ?_
 ·have hq' : isW T w s = false := by simpa using hq
  rw [if_neg (by simp [hq'])]
  simp -dsimp -implicitDefEqProofs only [go_sem, Nat.reduceAdd, Nat.reduceEqDiff, reduceIte, reduceCtorEq, Nat.reduceLeDiff, Nat.reduceLT, Nat.reduceSub, Int.reduceEq, Int.reduceLT]
  refine DoesK_of (fail_call (hi.may w) hp1 (Nat.lt_of_lt_of_le hpc f1.le) 14) ?_
  rintro v st ⟨rfl, h2, c2, rfl, f2, hp2⟩
  simp -dsimp -implicitDefEqProofs only [go_sem, Nat.reduceAdd, Nat.reduceEqDiff, reduceIte, reduceCtorEq, Nat.reduceLeDiff, Nat.reduceLT, Nat.reduceSub, Int.reduceEq, Int.reduceLT]
  exact ⟨rfl, _, _, rfl, f1.trans f2 (by simp), hp2⟩
 ·have hq' : isW T w s = true := by simpa using hq
  rw [if_pos hq']
  simp -dsimp -implicitDefEqProofs only [go_sem, Nat.reduceAdd, Nat.reduceEqDiff, reduceIte, reduceCtorEq, Nat.reduceLeDiff, Nat.reduceLT, Nat.reduceSub, Int.reduceEq, Int.reduceLT]
  exact ⟨rfl, _, _, rfl, f1, hp1⟩
theorem most_call (hi : Inv T s) (hp : h p = some (pcell o T s)) (hpc : p < c) (n m : Int) : Does X 31 [.ptr p 0, .int .i64 n, .int .i64 m] ⟨h, c, d⟩ (PK p o T h c d (.tuple []) (mostS T n m s)) := by
 refine call_aw b31 rfl rfl rfl ?_; delta b31
 simp -dsimp -implicitDefEqProofs only [go_sem, Nat.reduceAdd, Nat.reduceEqDiff, reduceIte, reduceCtorEq, Nat.reduceLeDiff, Nat.reduceLT, Nat.reduceSub, Int.reduceEq, Int.reduceLT]
 rw [mostS]
 refine CondV_split (fun hq => ?_) fun hq => ?_
 ·rw [if_pos (by simpa using hq)]
  simp -dsimp -implicitDefEqProofs only [go_sem, Nat.reduceAdd, Nat.reduceEqDiff, reduceIte, reduceCtorEq, Nat.reduceLeDiff, Nat.reduceLT, Nat.reduceSub, Int.reduceEq, Int.reduceLT]
  refine DoesK_of (fail_call hi hp hpc 16) ?_
  rintro v st ⟨rfl, h2, c2, rfl, f2, hp2⟩
  simp -dsimp -implicitDefEqProofs only [go_sem, Nat.reduceAdd, Nat.reduceEqDiff, reduceIte, reduceCtorEq, Nat.reduceLeDiff, Nat.reduceLT, Nat.reduceSub, Int.reduceEq, Int.reduceLT]
  exact ⟨rfl, _, _, rfl, f2, hp2⟩
 ·rw [if_neg (by simpa using hq)]
  simp -dsimp -implicitDefEqProofs only [go_sem, Nat.reduceAdd, Nat.reduceEqDiff, reduceIte, reduceCtorEq, Nat.reduceLeDiff, Nat.reduceLT, Nat.reduceSub, Int.reduceEq, Int.reduceLT]
  exact ⟨rfl, _, _, rfl, Fr.refl _ _ _, hp⟩
theorem word_call (hi : Inv T s) (hp : h p = some (pcell o T s)) (hpc : p < c) (k : Int) : Does X 63 [.ptr p 0, .int .i64 k] ⟨h, c, d⟩ (PK p o T h c d (tkV (look T (wordS T k s))) (takeS T (wordS T k s))) := by
 refine call_aw b63 rfl rfl rfl ?_; delta b63
 simp -dsimp -implicitDefEqProofs only [go_sem, Nat.reduceAdd, Nat.reduceEqDiff, reduceIte, reduceCtorEq, Nat.reduceLeDiff, Nat.reduceLT, Nat.reduceSub, Int.reduceEq, Int.reduceLT, preH, OpK_alloc]
 have hp0 : upd h c (.cells zeroT) p = some (pcell o T s) := by rw [upd_ne _ _ (by omega)]; exact hp
 refine DoesK_of (look_call (s := s) hi (p := p) (o := o) hp0 (by omega)) ?_
 rintro v st ⟨rfl, h1, c1, rfl, f1, hp1⟩
 have z0 : h1 c = some (.cells zeroT) := (f1.at (by omega) (by simp; omega)).trans (upd_same _ _ _)
 have hF : Fr h c h1 c1 [p] := ((Fr.refl h c [p]).upd _ (.inr (Nat.le_refl _)) (Nat.le_succ _)).trans f1 (by simp)
 have hc1 := f1.le
 have hfld : fldV false 1 0 (tkV (look T s)) = some (.int .i64 (look T s).1.k) := rfl
 simp -dsimp -implicitDefEqProofs only [go_sem, Nat.reduceAdd, Nat.reduceEqDiff, reduceIte, reduceCtorEq, Nat.reduceLeDiff, Nat.reduceLT, Nat.reduceSub, Int.reduceEq, Int.reduceLT, hfld]
 have tail : ∀ (s1 : PS) (h1 : Hp) (c1 : Nat), Inv T s1 → h1 c = some (.cells zeroT) → c < c1 → Fr h c h1 c1 [p] → h1 p = some (pcell o T s1) →
   Does X 49 [.ptr p 0] ⟨h1, c1, []⟩ fun v st => v = tkV (look T s1) ∧ ∃ h2 c2, st = ⟨h2, c2, []⟩ ∧ h2 c = some (.cells zeroT) ∧ Fr h c h2 c2 [p] ∧ h2 p = some (pcell o T (takeS T s1)) := by
  intro s1 h1 c1 hi1 hz hcc hF1 hp1
  refine (take_call hi1 hp1 (by omega)).mono ?_
  rintro v st ⟨rfl, h2, c2, rfl, f2, hp2⟩
  exact ⟨rfl, h2, c2, rfl, (f2.at hcc (by simp; omega)).trans hz, hF1.trans f2 (by simp), hp2⟩
 refine CondV_split (fun hq => ?_) fun hq => ?_
 ·have hw : wordS T k s = fail T 14 s := by rw [wordS, if_pos (by simpa using hq)]
  rw [hw]
  simp -dsimp -implicitDefEqProofs only [go_sem, Nat.reduceAdd, Nat.reduceEqDiff, reduceIte, reduceCtorEq, Nat.reduceLeDiff, Nat.reduceLT, Nat.reduceSub, Int.reduceEq, Int.reduceLT]
  refine DoesK_of (fail_call hi hp1 (by omega) 14) ?_
  rintro v st ⟨rfl, h2, c2, rfl, f2, hp2⟩
  have hc2 := f2.le
  simp -dsimp -implicitDefEqProofs only [go_sem, Nat.reduceAdd, Nat.reduceEqDiff, reduceIte, reduceCtorEq, Nat.reduceLeDiff, Nat.reduceLT, Nat.reduceSub, Int.reduceEq, Int.reduceLT]
  refine DoesK_of (tail _ h2 c2 (hi.fail _) ((f2.at (by omega) (by simp; omega)).trans z0) (by omega) (hF.trans f2 (by simp)) hp2) ?_
  rintro v st ⟨rfl, h3, c3, rfl, z3, f3, hp3⟩
  simp -dsimp -implicitDefEqProofs only [go_sem, Nat.reduceAdd, Nat.reduceEqDiff, reduceIte, reduceCtorEq, Nat.reduceLeDiff, Nat.reduceLT, Nat.reduceSub, Int.reduceEq, Int.reduceLT, z3, zeroT, tkV, tokC, ldCells]
  exact ⟨rfl, _, _, rfl, f3.upd _ (.inr (Nat.le_refl _)) (Nat.le_refl _), by rw [upd_ne _ _ (by omega), hp3]⟩
 ·have hw : wordS T k s = s := by rw [wordS, if_neg (by simpa using hq)]
  rw [hw]
  simp -dsimp -implicitDefEqProofs only [go_sem, Nat.reduceAdd, Nat.reduceEqDiff, reduceIte, reduceCtorEq, Nat.reduceLeDiff, Nat.reduceLT, Nat.reduceSub, Int.reduceEq, Int.reduceLT]
  refine DoesK_of (tail _ h1 c1 hi z0 (by omega) hF hp1) ?_
  rintro v st ⟨rfl, h3, c3, rfl, z3, f3, hp3⟩
  simp -dsimp -implicitDefEqProofs only [go_sem, Nat.reduceAdd, Nat.reduceEqDiff, reduceIte, reduceCtorEq, Nat.reduceLeDiff, Nat.reduceLT, Nat.reduceSub, Int.reduceEq, Int.reduceLT, z3, zeroT, tkV, tokC, ldCells]
  exact ⟨rfl, _, _, rfl, f3.upd _ (.inr (Nat.le_refl _)) (Nat.le_refl _), by rw [upd_ne _ _ (by omega), hp3]⟩
theorem begins_call (hi : Inv T s) (hp : h p = some (pcell o T s)) (hpc : p < c) : Does X 94 [.ptr p 0] ⟨h, c, d⟩ (PK p o T h c d (.bool (begins T s)) s) := by
 refine call_aw b94 rfl rfl rfl ?_; delta b94
 simp -dsimp -implicitDefEqProofs only [go_sem, Nat.reduceAdd, Nat.reduceEqDiff, reduceIte, reduceCtorEq, Nat.reduceLeDiff, Nat.reduceLT, Nat.reduceSub, Int.reduceEq, Int.reduceLT, preH]
 refine DoesK_of (look_call (s := s) hi (p := p) (o := o) (by rw [upd_ne _ _ (by omega)]; exact hp) (by omega)) ?_
 rintro v st ⟨rfl, h1, c1, rfl, f1, hp1⟩
 have z0 : h1 c = some (.cells zeroT) := (f1.at (by omega) (by simp; omega)).trans (upd_same _ _ _)
 have hF : Fr h c h1 c1 [p] := ((Fr.refl h c [p]).upd _ (.inr (Nat.le_refl _)) (Nat.le_succ _)).trans f1 (by simp)
 have hF1 : ∀ x, Fr h c (upd h1 c x) c1 [p] := fun x => hF.upd _ (.inr (Nat.le_refl _)) (Nat.le_refl _)
 have hp2 : ∀ x, upd h1 c x p = some (pcell o T s) := fun x => by rw [upd_ne _ _ (by omega), hp1]
 have hc1 := hF.le
 unfold begins
 have hB : ∀ w, isW T w s = isW T w s := fun _ => rfl
 generalize hk : (look T s).1.k = k
 have hfl : ∃ t n a, tkV (look T s) = .agg [.int .i64 k, .str t, .int .i64 n, .int .i64 a] := by
  rw [← hk]; exact ⟨_, _, _, rfl⟩
 obtain ⟨t, n, a, hfl⟩ := hfl
 cases k1 : decide (k = 1)
 ·cases k2 : decide (k = 2)
  ·cases k3 : decide (k = 3)
   ·cases k4 : decide (k = 4)
    ·simp -dsimp -implicitDefEqProofs only [go_sem, Nat.reduceAdd, Nat.reduceEqDiff, reduceIte, reduceCtorEq, Nat.reduceLeDiff, Nat.reduceLT, Nat.reduceSub, Int.reduceEq, Int.reduceLT, OpK_alloc, z0, zeroT, hfl, ldCells, k1, k2, k3, k4, Bool.false_or, Bool.true_or]
     refine DoesK_of (isw_call hi (hp2 _) (by omega) [40]) ?_
     rintro v st ⟨rfl, h3, c3, rfl, f3, hp3⟩
     have F3 := (hF1 _).trans f3 (by simp)
     have hc3 := F3.le
     cases i1 : isW T [40] s
     ·simp -dsimp -implicitDefEqProofs only [go_sem, Nat.reduceAdd, Nat.reduceEqDiff, reduceIte, reduceCtorEq, Nat.reduceLeDiff, Nat.reduceLT, Nat.reduceSub, Int.reduceEq, Int.reduceLT, Bool.false_or, Bool.true_or]
      refine DoesK_of (isw_call hi hp3 (by omega) wRetry) ?_
      rintro v st ⟨rfl, h4, c4, rfl, f4, hp4⟩
      have F4 := F3.trans f4 (by simp)
      have hc4 := F4.le
      cases i2 : isW T wRetry s
      ·simp -dsimp -implicitDefEqProofs only [go_sem, Nat.reduceAdd, Nat.reduceEqDiff, reduceIte, reduceCtorEq, Nat.reduceLeDiff, Nat.reduceLT, Nat.reduceSub, Int.reduceEq, Int.reduceLT, Bool.false_or, Bool.true_or]
       refine DoesK_of (isw_call hi hp4 (by omega) wMatch) ?_
       rintro v st ⟨rfl, h5, c5, rfl, f5, hp5⟩
       have F5 := F4.trans f5 (by simp)
       have hc5 := F5.le
       cases i3 : isW T wMatch s
       ·simp -dsimp -implicitDefEqProofs only [go_sem, Nat.reduceAdd, Nat.reduceEqDiff, reduceIte, reduceCtorEq, Nat.reduceLeDiff, Nat.reduceLT, Nat.reduceSub, Int.reduceEq, Int.reduceLT, Bool.false_or, Bool.true_or]
        refine DoesK_of (isw_call hi hp5 (by omega) wTry) ?_
        rintro v st ⟨rfl, h6, c6, rfl, f6, hp6⟩
        simp -dsimp -implicitDefEqProofs only [go_sem, Nat.reduceAdd, Nat.reduceEqDiff, reduceIte, reduceCtorEq, Nat.reduceLeDiff, Nat.reduceLT, Nat.reduceSub, Int.reduceEq, Int.reduceLT]
        exact ⟨rfl, _, _, rfl, F5.trans f6 (by simp), hp6⟩
       ·simp -dsimp -implicitDefEqProofs only [go_sem, Nat.reduceAdd, Nat.reduceEqDiff, reduceIte, reduceCtorEq, Nat.reduceLeDiff, Nat.reduceLT, Nat.reduceSub, Int.reduceEq, Int.reduceLT, Bool.false_or, Bool.true_or]
        exact ⟨rfl, _, _, rfl, F5, hp5⟩
      ·simp -dsimp -implicitDefEqProofs only [go_sem, Nat.reduceAdd, Nat.reduceEqDiff, reduceIte, reduceCtorEq, Nat.reduceLeDiff, Nat.reduceLT, Nat.reduceSub, Int.reduceEq, Int.reduceLT, Bool.false_or, Bool.true_or]
       exact ⟨rfl, _, _, rfl, F4, hp4⟩
     ·simp -dsimp -implicitDefEqProofs only [go_sem, Nat.reduceAdd, Nat.reduceEqDiff, reduceIte, reduceCtorEq, Nat.reduceLeDiff, Nat.reduceLT, Nat.reduceSub, Int.reduceEq, Int.reduceLT, Bool.false_or, Bool.true_or]
      exact ⟨rfl, _, _, rfl, F3, hp3⟩
    ·simp -dsimp -implicitDefEqProofs only [go_sem, Nat.reduceAdd, Nat.reduceEqDiff, reduceIte, reduceCtorEq, Nat.reduceLeDiff, Nat.reduceLT, Nat.reduceSub, Int.reduceEq, Int.reduceLT, OpK_alloc, z0, zeroT, hfl, ldCells, k1, k2, k3, k4, Bool.false_or, Bool.true_or]
     exact ⟨rfl, _, _, rfl, hF1 _, hp2 _⟩
   ·simp -dsimp -implicitDefEqProofs only [go_sem, Nat.reduceAdd, Nat.reduceEqDiff, reduceIte, reduceCtorEq, Nat.reduceLeDiff, Nat.reduceLT, Nat.reduceSub, Int.reduceEq, Int.reduceLT, OpK_alloc, z0, zeroT, hfl, ldCells, k1, k2, k3, Bool.false_or, Bool.true_or]
    exact ⟨rfl, _, _, rfl, hF1 _, hp2 _⟩
  ·simp -dsimp -implicitDefEqProofs only [go_sem, Nat.reduceAdd, Nat.reduceEqDiff, reduceIte, reduceCtorEq, Nat.reduceLeDiff, Nat.reduceLT, Nat.reduceSub, Int.reduceEq, Int.reduceLT, OpK_alloc, z0, zeroT, hfl, ldCells, k1, k2, Bool.false_or, Bool.true_or]
   exact ⟨rfl, _, _, rfl, hF1 _, hp2 _⟩
 ·simp -dsimp -implicitDefEqProofs only [go_sem, Nat.reduceAdd, Nat.reduceEqDiff, reduceIte, reduceCtorEq, Nat.reduceLeDiff, Nat.reduceLT, Nat.reduceSub, Int.reduceEq, Int.reduceLT, OpK_alloc, z0, zeroT, hfl, ldCells, k1, Bool.false_or, Bool.true_or]
  exact ⟨rfl, _, _, rfl, hF1 _, hp2 _⟩
end
theorem kind_call (w : List UInt8) (st : ASt) : Does X 92 [.str w] st fun v s' => v = .tuple [.int .i64 (kindOf w).1, .int .i64 ((kindOf w).2 : Int)] ∧ s' = st := by
 obtain ⟨h, c, d⟩ := st
 refine call_aw b92 rfl rfl rfl ?_; delta b92
 unfold kindOf
 simp -dsimp -implicitDefEqProofs only [go_sem, Nat.reduceAdd, Nat.reduceEqDiff, reduceIte, reduceCtorEq, Nat.reduceLeDiff, Nat.reduceLT, Nat.reduceSub, Int.reduceEq, Int.reduceLT]
 refine CondV_split (fun hq => ?_) fun hq => ?_
 ·rw [if_pos (by simpa using hq)]
  simp -dsimp -implicitDefEqProofs only [go_sem, Nat.reduceAdd, Nat.reduceEqDiff, reduceIte, reduceCtorEq, Nat.reduceLeDiff, Nat.reduceLT, Nat.reduceSub, Int.reduceEq, Int.reduceLT]
  rfl
 rw [if_neg (by simpa using hq)]
 simp -dsimp -implicitDefEqProofs only [go_sem, Nat.reduceAdd, Nat.reduceEqDiff, reduceIte, reduceCtorEq, Nat.reduceLeDiff, Nat.reduceLT, Nat.reduceSub, Int.reduceEq, Int.reduceLT]
 refine CondV_split (fun hq => ?_) fun hq => ?_
 ·rw [if_pos (by simpa using hq)]
  simp -dsimp -implicitDefEqProofs only [go_sem, Nat.reduceAdd, Nat.reduceEqDiff, reduceIte, reduceCtorEq, Nat.reduceLeDiff, Nat.reduceLT, Nat.reduceSub, Int.reduceEq, Int.reduceLT]
  rfl
 rw [if_neg (by simpa using hq)]
 simp -dsimp -implicitDefEqProofs only [go_sem, Nat.reduceAdd, Nat.reduceEqDiff, reduceIte, reduceCtorEq, Nat.reduceLeDiff, Nat.reduceLT, Nat.reduceSub, Int.reduceEq, Int.reduceLT]
 refine CondV_split (fun hq => ?_) fun hq => ?_
 ·rw [if_pos (by simpa using hq)]
  simp -dsimp -implicitDefEqProofs only [go_sem, Nat.reduceAdd, Nat.reduceEqDiff, reduceIte, reduceCtorEq, Nat.reduceLeDiff, Nat.reduceLT, Nat.reduceSub, Int.reduceEq, Int.reduceLT]
  rfl
 rw [if_neg (by simpa using hq)]
 simp -dsimp -implicitDefEqProofs only [go_sem, Nat.reduceAdd, Nat.reduceEqDiff, reduceIte, reduceCtorEq, Nat.reduceLeDiff, Nat.reduceLT, Nat.reduceSub, Int.reduceEq, Int.reduceLT]
 refine CondV_split (fun hq => ?_) fun hq => ?_
 ·rw [if_pos (by simpa using hq)]
  simp -dsimp -implicitDefEqProofs only [go_sem, Nat.reduceAdd, Nat.reduceEqDiff, reduceIte, reduceCtorEq, Nat.reduceLeDiff, Nat.reduceLT, Nat.reduceSub, Int.reduceEq, Int.reduceLT]
  rfl
 rw [if_neg (by simpa using hq)]
 simp -dsimp -implicitDefEqProofs only [go_sem, Nat.reduceAdd, Nat.reduceEqDiff, reduceIte, reduceCtorEq, Nat.reduceLeDiff, Nat.reduceLT, Nat.reduceSub, Int.reduceEq, Int.reduceLT]
 refine CondV_split (fun hq => ?_) fun hq => ?_
 ·rw [if_pos (by simpa using hq)]
  simp -dsimp -implicitDefEqProofs only [go_sem, Nat.reduceAdd, Nat.reduceEqDiff, reduceIte, reduceCtorEq, Nat.reduceLeDiff, Nat.reduceLT, Nat.reduceSub, Int.reduceEq, Int.reduceLT]
  rfl
 rw [if_neg (by simpa using hq)]
 simp -dsimp -implicitDefEqProofs only [go_sem, Nat.reduceAdd, Nat.reduceEqDiff, reduceIte, reduceCtorEq, Nat.reduceLeDiff, Nat.reduceLT, Nat.reduceSub, Int.reduceEq, Int.reduceLT]
 refine CondV_split (fun hq => ?_) fun hq => ?_
 ·rw [if_pos (by simpa using hq)]
  simp -dsimp -implicitDefEqProofs only [go_sem, Nat.reduceAdd, Nat.reduceEqDiff, reduceIte, reduceCtorEq, Nat.reduceLeDiff, Nat.reduceLT, Nat.reduceSub, Int.reduceEq, Int.reduceLT]
  rfl
 rw [if_neg (by simpa using hq)]
 simp -dsimp -implicitDefEqProofs only [go_sem, Nat.reduceAdd, Nat.reduceEqDiff, reduceIte, reduceCtorEq, Nat.reduceLeDiff, Nat.reduceLT, Nat.reduceSub, Int.reduceEq, Int.reduceLT]
 refine CondV_split (fun hq => ?_) fun hq => ?_
 ·rw [if_pos (by simpa using hq)]
  simp -dsimp -implicitDefEqProofs only [go_sem, Nat.reduceAdd, Nat.reduceEqDiff, reduceIte, reduceCtorEq, Nat.reduceLeDiff, Nat.reduceLT, Nat.reduceSub, Int.reduceEq, Int.reduceLT]
  rfl
 rw [if_neg (by simpa using hq)]
 simp -dsimp -implicitDefEqProofs only [go_sem, Nat.reduceAdd, Nat.reduceEqDiff, reduceIte, reduceCtorEq, Nat.reduceLeDiff, Nat.reduceLT, Nat.reduceSub, Int.reduceEq, Int.reduceLT]
 refine CondV_split (fun hq => ?_) fun hq => ?_
 ·rw [if_pos (by simpa using hq)]
  simp -dsimp -implicitDefEqProofs only [go_sem, Nat.reduceAdd, Nat.reduceEqDiff, reduceIte, reduceCtorEq, Nat.reduceLeDiff, Nat.reduceLT, Nat.reduceSub, Int.reduceEq, Int.reduceLT]
  rfl
 rw [if_neg (by simpa using hq)]
 simp -dsimp -implicitDefEqProofs only [go_sem, Nat.reduceAdd, Nat.reduceEqDiff, reduceIte, reduceCtorEq, Nat.reduceLeDiff, Nat.reduceLT, Nat.reduceSub, Int.reduceEq, Int.reduceLT]
 rfl
theorem node_call (k a : Int) (t : List UInt8) (oo : Own) (es : List AV) (h : Hp) (c : Nat) (d : List (Nat × List AV)) : Does X 28 [.int .i64 k, .int .i64 a, .str t, .slice oo es] ⟨h, c, d⟩ fun v s' => v = .agg [.int .i64 k, .str t, .int .i64 0, .int .i64 a, .slice .full [], .slice oo es] ∧ ∃ h' c', s' = ⟨h', c', d⟩ ∧ Fr h c h' c' [] := by
 refine call_aw b28 rfl rfl rfl ?_; delta b28
 simp -dsimp -implicitDefEqProofs only [go_sem, Nat.reduceAdd, Nat.reduceEqDiff, reduceIte, reduceCtorEq, Nat.reduceLeDiff, Nat.reduceLT, Nat.reduceSub, Int.reduceEq, Int.reduceLT, OpK_alloc, preH, fillV, ldCells]
 exact ⟨_, _, rfl, (Fr.refl _ _ _).upd _ (.inr (Nat.le_refl _)) (Nat.le_succ _)⟩
/-- A node, and a value of the machine. -/
inductive NR : Nd → AV → Prop
 | mk {k : Int} {t : List UInt8} {n a : Int} {ns : List (List UInt8)} {ks : List Nd} {o o' : Own} {es : List AV} : es.length = ks.length → (∀ (i : Nat) (x : Nd) (v : AV), ks[i]? = some x → es[i]? = some v → NR x v) → (hf : ks = [] → o' = .full := by first | exact fun _ => rfl | (intro hf; simp at hf; done)) →
   NR (.mk k t n a ns ks) (.agg [.int .i64 k, .str t, .int .i64 n, .int .i64 a, .slice o (ns.map AV.str), .slice o' es])
def NRs (ks : List Nd) (es : List AV) : Prop := es.length = ks.length ∧ ∀ (i : Nat) (x : Nd) (v : AV), ks[i]? = some x → es[i]? = some v → NR x v
theorem NR.inv {nd : Nd} {v : AV} (h : NR nd v) : ∃ o o' es, v = .agg [.int .i64 nd.k, .str nd.t, .int .i64 nd.n, .int .i64 nd.a, .slice o (nd.ns.map AV.str), .slice o' es] ∧ NRs nd.ks es := by
 cases h with
 | mk h1 h2 h3 => exact ⟨_, _, _, rfl, h1, h2⟩
theorem NR.full {nd : Nd} {x1 x2 x3 x4 x5 : AV} {o' : Own} {es : List AV} (h : NR nd (.agg [x1, x2, x3, x4, x5, .slice o' es])) (hk : nd.ks = []) : o' = .full ∧ es = [] := by
 cases h with
 | mk h1 h2 h3 => exact ⟨h3 hk, List.eq_nil_of_length_eq_zero (by rw [h1]; exact congrArg List.length hk)⟩
theorem NRs.nil : NRs [] [] := ⟨rfl, fun i x v h => by simp at h⟩
theorem NRs.one {x : Nd} {v : AV} (h : NR x v) : NRs [x] [v] := by
 refine ⟨rfl, fun i y w h1 h2 => ?_⟩
 cases i with
 | zero => simp at h1 h2; subst h1; subst h2; exact h
 | succ i => simp at h1
theorem NRs.app {ks ls : List Nd} {es fs : List AV} (h : NRs ks es) (k : NRs ls fs) : NRs (ks ++ ls) (es ++ fs) := by
 refine ⟨by simp [h.1, k.1], fun i x v h1 h2 => ?_⟩
 rcases Nat.lt_or_ge i ks.length with hi | hi
 ·rw [List.getElem?_append_left hi] at h1
  rw [List.getElem?_append_left (by rw [h.1]; exact hi)] at h2
  exact h.2 i x v h1 h2
 ·rw [List.getElem?_append_right hi] at h1
  rw [List.getElem?_append_right (by rw [h.1]; exact hi), h.1] at h2
  exact k.2 _ x v h1 h2
theorem NRs.sized {ks : List Nd} {es : List AV} (h : NRs ks es) : sizedV 6 es = true := by
 simp only [sizedV, List.all_eq_true]
 intro e he
 obtain ⟨i, hi⟩ := List.mem_iff_getElem?.1 he
 have hil : i < ks.length := by
  rw [← h.1]
  rcases Nat.lt_or_ge i es.length with h' | h'
  ·exact h'
  ·rw [List.getElem?_eq_none h'] at hi; cases hi
 obtain ⟨o, o', fs, rfl, _⟩ := (h.2 i _ e (List.getElem?_eq_getElem hil) hi).inv
 rfl
theorem NR.zero : NR nd0 (.agg [.int .i64 0, .str [], .int .i64 0, .int .i64 0, .slice .full [], .slice .full []]) := .mk rfl (fun i x v h => by simp at h)
/-- A node that is read, the parser's state. -/
def NK (p : Nat) (o : Own) (T : List Tok) (h : Hp) (c : Nat) (d : List (Nat × List AV)) (n : Nd) (s' : PS) : AV → ASt → Prop := fun v st =>
 NR n v ∧ ∃ h' c', st = ⟨h', c', d⟩ ∧ Fr h c h' c' [p] ∧ h' p = some (pcell o T s')
/-- How a function of the parser reads. -/
def Reads (T : List Tok) (p : Nat) (o : Own) (g : Nat) (rn : PS → Option (Nd × PS)) : Prop := ∀ s n s', Inv T s → rn s = some (n, s') → (s'.deep = s.deep ∧ Inv T s') ∧ ∀ h c d, h p = some (pcell o T s) → p < c → Does X g [.ptr p 0] ⟨h, c, d⟩ (NK p o T h c d n s')
def zeroN : List AV := [.int .i64 0, .str [], .int .i64 0, .int .i64 0, .slice .full [], .slice .full []]
section
variable {T : List Tok} {p : Nat} {o : Own}
theorem fail_deep (c : Int) (s : PS) : (fail T c s).deep = s.deep := by unfold fail; split <;> rfl
theorem take_deep (s : PS) : (takeS T s).deep = s.deep := by unfold takeS; split <;> rfl
theorem may_deep (w : List UInt8) (s : PS) : (mayS T w s).deep = s.deep := by unfold mayS; split <;> simp [take_deep]
theorem must_deep (w : List UInt8) (s : PS) : (mustS T w s).deep = s.deep := by unfold mustS; split <;> simp [take_deep, fail_deep]
theorem word_deep (k : Int) (s : PS) : (wordS T k s).deep = s.deep := by unfold wordS; split <;> simp [fail_deep]
theorem most_deep (n m : Int) (s : PS) : (mostS T n m s).deep = s.deep := by unfold mostS; split <;> simp [fail_deep]
theorem Inv.deepen {s : PS} (hi : Inv T s) : Inv T { s with deep := s.deep + 1 } := ⟨hi.lt, hi.end_, hi.len, by have := hi.deep; simp only; omega⟩
theorem in_reads {g : Nat} {rn : PS → Option (Nd × PS)} (hg : Reads T p o g rn) {s s' : PS} {n : Nd} (hi : Inv T s) (hr : inR T rn s = some (n, s')) :
  (s'.deep = s.deep ∧ Inv T s') ∧ ∀ h c d, h p = some (pcell o T s) → p < c → Does X 34 [.ptr p 0, .func g [] []] ⟨h, c, d⟩ (NK p o T h c d n s') := by
 have hS : ∃ S, S = (if s.deep ≥ 40 then fail T 15 s else s) ∧ S.deep = s.deep ∧ Inv T S := by
  refine ⟨_, rfl, ?_, ?_⟩
  ·split
   ·exact fail_deep _ _
   ·rfl
  ·split
   ·exact hi.fail _
   ·exact hi
 obtain ⟨S, hS, hSd, hSi⟩ := hS
 simp only [inR] at hr
 rw [← hS] at hr
 have hdeep : s'.deep = s.deep ∧ Inv T s' := by
  split at hr
  ·injection hr with hr; injection hr with h1 h2
   subst h2; exact ⟨hSd, hSi⟩
  ·split at hr
   ·rename_i n2 s2 h2
    injection hr with hr; injection hr with h3 h4
    obtain ⟨⟨h5, h6⟩, _⟩ := hg _ _ _ hSi.deepen h2
    have hd0 := hi.deep
    subst h4
    simp only at h5
    exact ⟨by simp only; omega, ⟨h6.lt, h6.end_, h6.len, by simp only; omega⟩⟩
   ·cases hr
 refine ⟨hdeep, fun h c d hp hpc => ?_⟩
 refine call_awD b34 rfl rfl rfl ?_; delta b34
 have n0 : p ≠ c := by omega
 have n1 : p ≠ c + 1 := by omega
 have u0 : ∀ h x, upd h c x p = h p := fun h x => upd_ne h x n0
 have u1 : ∀ h x, upd h (c + 1) x p = h p := fun h x => upd_ne h x n1
 have u2 : ∀ h x, upd h (c + 1) x c = h c := fun h x => upd_ne h x (by omega)
 have u3 : ∀ h x, upd h c x (c + 1) = h (c + 1) := fun h x => upd_ne h x (by omega)
 have u4 : ∀ h x, upd h p x c = h c := fun h x => upd_ne h x (Ne.symm n0)
 have u5 : ∀ h x, upd h p x (c + 1) = h (c + 1) := fun h x => upd_ne h x (Ne.symm n1)
 simp -dsimp -implicitDefEqProofs only [go_sem, Nat.reduceAdd, Nat.reduceEqDiff, reduceIte, reduceCtorEq, Nat.reduceLeDiff, Nat.reduceLT, Nat.reduceSub, Int.reduceEq, Int.reduceLT, preH, boxV, OpK_alloc, u0, u1, u2, u3, hp, pcell]
 have hH : ∀ H C, H = upd (upd h (c + 1) (.cells zeroN)) c (.cells [.ptr p 0]) → C = c + 2 → H p = some (pcell o T s) ∧ H c = some (.cells [.ptr p 0]) ∧ H (c + 1) = some (.cells zeroN) ∧ Fr h c H C [p] ∧ c + 2 ≤ C := by
  rintro H C rfl rfl
  exact ⟨by rw [u0, u1, hp], upd_same _ _ _, by rw [u3, upd_same], ((Fr.refl h c [p]).upd _ (.inr (Nat.le_succ _)) (Nat.le_succ _)).upd _ (.inr (Nat.le_refl _)) (Nat.le_succ _), Nat.le_refl _⟩
 refine CondV_split (fun hq => ?_) fun hq => ?_
 all_goals
  change Aw X _ _ _ _ _ ⟨upd (upd h (c + 1) (.cells zeroN)) c (.cells [.ptr p 0]), c + 2, _⟩
  obtain ⟨Hp, Hc, Hc1, HF, HC⟩ := hH _ _ rfl rfl
  generalize upd (upd h (c + 1) (.cells zeroN)) c (.cells [.ptr p 0]) = H at Hp Hc Hc1 HF ⊢
  generalize hCC : c + 2 = C at HF ⊢
  replace HC : c + 2 ≤ C := by omega
  clear hH hCC
 ·have hSf : S = fail T 15 s := by rw [hS, if_pos (by simpa using hq)]
  simp -dsimp -implicitDefEqProofs only [go_sem, Nat.reduceAdd, Nat.reduceEqDiff, reduceIte, reduceCtorEq, Nat.reduceLeDiff, Nat.reduceLT, Nat.reduceSub, Int.reduceEq, Int.reduceLT, Hc, ldCells]
  refine DoesK_of (fail_call hi Hp (by omega) 15) ?_
  rintro v st ⟨rfl, H1, C1, rfl, f1, Hp1⟩
  have hf1 := f1.le
  rw [← hSf] at Hp1
  replace Hc := (f1.at (show c < C by omega) (by simp; omega)).trans Hc
  replace Hc1 := (f1.at (show c + 1 < C by omega) (by simp; omega)).trans Hc1
  replace HF := HF.trans f1 (by simp)
  replace HC : c + 2 ≤ C1 := by omega
  clear f1 Hp hf1
  rename Fr h c H1 C1 [p] => HF
  have Hp := Hp1
  simp -dsimp -implicitDefEqProofs only [go_sem, Nat.reduceAdd, Nat.reduceEqDiff, reduceIte, reduceCtorEq, Nat.reduceLeDiff, Nat.reduceLT, Nat.reduceSub, Int.reduceEq, Int.reduceLT, Hc, ldCells, Hp, pcell]
  refine CondV_split (fun he => ?_) fun he => ?_
  ·have he' : S.e ≠ 0 := by simpa using he
   rw [if_pos he'] at hr
   injection hr with hr; injection hr with r1 r2
   subst r1; subst r2
   simp -dsimp -implicitDefEqProofs only [go_sem, Nat.reduceAdd, Nat.reduceEqDiff, reduceIte, reduceCtorEq, Nat.reduceLeDiff, Nat.reduceLT, Nat.reduceSub, Int.reduceEq, Int.reduceLT, Hc1, fillV, zeroN, ldCells, u5]
   exact ⟨NR.zero, _, _, rfl, HF.upd _ (.inr (Nat.le_succ _)) (Nat.le_refl _), by rw [u1, Hp]⟩
  ·have he' : ¬ S.e ≠ 0 := by simpa using he
   rw [if_neg he'] at hr
   have hlt : s.deep < 40 := by
    rcases Int.lt_or_le s.deep 40 with h' | h'
    ·exact h'
    ·exfalso
     rw [if_pos h'] at hS
     apply he'
     rw [hS]
     unfold fail
     split
     ·simp
     ·assumption
   have hd0 := hi.deep
   split at hr
   case h_2 => cases hr
   rename_i n2 s2 h2
   injection hr with hr; injection hr with r1 r2
   subst r1; subst r2
   have hi2 : Inv T { S with deep := S.deep + 1 } := hSi.deepen
   have w1 : IntKind.wrap .i64 (S.deep + 1) = S.deep + 1 := wrap_i64 (by omega) (by omega)
   have hc2 : upd H1 p (pcell o T { S with deep := S.deep + 1 }) p = some (pcell o T { S with deep := S.deep + 1 }) := upd_same _ _ _
   obtain ⟨⟨hdp, hi3⟩, hcall⟩ := hg _ _ _ hi2 h2
   simp -dsimp -implicitDefEqProofs only [go_sem, Nat.reduceAdd, Nat.reduceEqDiff, reduceIte, reduceCtorEq, Nat.reduceLeDiff, Nat.reduceLT, Nat.reduceSub, Int.reduceEq, Int.reduceLT, Hc, Hp, pcell, ldCells, w1, deferV, u4, u5, hc2]
   refine DoesK_of (hcall _ C1 [(52, [.ptr c 0])] hc2 (by omega)) ?_
   rintro v st ⟨hn, H2, C2, rfl, f2, Hp2⟩
   have hf2 := f2.le
   have Hc' : H2 c = some (.cells [.ptr p 0]) := (f2.at (by omega) (by simp; omega)).trans (by rw [u4, Hc])
   have Hc1' : H2 (c + 1) = some (.cells zeroN) := (f2.at (by omega) (by simp; omega)).trans (by rw [u5, Hc1])
   have HF2 : Fr h c H2 C2 [p] := (HF.upd _ (.inl (by simp)) (Nat.le_refl _)).trans f2 (by simp)
   simp only at hdp
   have w2 : IntKind.wrap .i64 (s2.deep - 1) = s2.deep - 1 := wrap_i64 (by omega) (by omega)
   obtain ⟨o1, o2, es, rfl, hes⟩ := hn.inv
   simp -dsimp -implicitDefEqProofs only [go_sem, Nat.reduceAdd, Nat.reduceEqDiff, reduceIte, reduceCtorEq, Nat.reduceLeDiff, Nat.reduceLT, Nat.reduceSub, Int.reduceEq, Int.reduceLT, Hc1', zeroN, ldCells]
   refine DfrV_one b52 rfl rfl rfl ?_; delta b52
   simp -dsimp -implicitDefEqProofs only [go_sem, Nat.reduceAdd, Nat.reduceEqDiff, reduceIte, reduceCtorEq, Nat.reduceLeDiff, Nat.reduceLT, Nat.reduceSub, Int.reduceEq, Int.reduceLT, Hc', u2, u1, Hp2, pcell, ldCells, w2]
   change OptK _ _ Veil.mk
   simp -dsimp -implicitDefEqProofs only [go_sem, Nat.reduceAdd, Nat.reduceEqDiff, reduceIte, reduceCtorEq, Nat.reduceLeDiff, Nat.reduceLT, Nat.reduceSub, Int.reduceEq, Int.reduceLT, u5, ldCells]
   refine ⟨hn, _, _, rfl, (HF2.upd _ (.inr (Nat.le_succ _)) (Nat.le_refl _)).upd _ (.inl (by simp)) (Nat.le_refl _), ?_⟩
   rw [upd_same]; rfl
 ·have hSf : S = s := by rw [hS, if_neg (by simpa using hq)]
  rw [← hSf] at Hp
  simp -dsimp -implicitDefEqProofs only [go_sem, Nat.reduceAdd, Nat.reduceEqDiff, reduceIte, reduceCtorEq, Nat.reduceLeDiff, Nat.reduceLT, Nat.reduceSub, Int.reduceEq, Int.reduceLT, Hc, ldCells, Hp, pcell]
  refine CondV_split (fun he => ?_) fun he => ?_
  ·have he' : S.e ≠ 0 := by simpa using he
   rw [if_pos he'] at hr
   injection hr with hr; injection hr with r1 r2
   subst r1; subst r2
   simp -dsimp -implicitDefEqProofs only [go_sem, Nat.reduceAdd, Nat.reduceEqDiff, reduceIte, reduceCtorEq, Nat.reduceLeDiff, Nat.reduceLT, Nat.reduceSub, Int.reduceEq, Int.reduceLT, Hc1, fillV, zeroN, ldCells, u5]
   exact ⟨NR.zero, _, _, rfl, HF.upd _ (.inr (Nat.le_succ _)) (Nat.le_refl _), by rw [u1, Hp]⟩
  ·have he' : ¬ S.e ≠ 0 := by simpa using he
   rw [if_neg he'] at hr
   have hlt : s.deep < 40 := by
    rcases Int.lt_or_le s.deep 40 with h' | h'
    ·exact h'
    ·exfalso
     rw [if_pos h'] at hS
     apply he'
     rw [hS]
     unfold fail
     split
     ·simp
     ·assumption
   have hd0 := hi.deep
   split at hr
   case h_2 => cases hr
   rename_i n2 s2 h2
   injection hr with hr; injection hr with r1 r2
   subst r1; subst r2
   have hi2 : Inv T { S with deep := S.deep + 1 } := hSi.deepen
   have w1 : IntKind.wrap .i64 (S.deep + 1) = S.deep + 1 := wrap_i64 (by omega) (by omega)
   have hc2 : upd H p (pcell o T { S with deep := S.deep + 1 }) p = some (pcell o T { S with deep := S.deep + 1 }) := upd_same _ _ _
   obtain ⟨⟨hdp, hi3⟩, hcall⟩ := hg _ _ _ hi2 h2
   simp -dsimp -implicitDefEqProofs only [go_sem, Nat.reduceAdd, Nat.reduceEqDiff, reduceIte, reduceCtorEq, Nat.reduceLeDiff, Nat.reduceLT, Nat.reduceSub, Int.reduceEq, Int.reduceLT, Hc, Hp, pcell, ldCells, w1, deferV, u4, u5, hc2]
   refine DoesK_of (hcall _ C [(52, [.ptr c 0])] hc2 (by omega)) ?_
   rintro v st ⟨hn, H2, C2, rfl, f2, Hp2⟩
   have hf2 := f2.le
   have Hc' : H2 c = some (.cells [.ptr p 0]) := (f2.at (by omega) (by simp; omega)).trans (by rw [u4, Hc])
   have Hc1' : H2 (c + 1) = some (.cells zeroN) := (f2.at (by omega) (by simp; omega)).trans (by rw [u5, Hc1])
   have HF2 : Fr h c H2 C2 [p] := (HF.upd _ (.inl (by simp)) (Nat.le_refl _)).trans f2 (by simp)
   simp only at hdp
   have w2 : IntKind.wrap .i64 (s2.deep - 1) = s2.deep - 1 := wrap_i64 (by omega) (by omega)
   obtain ⟨o1, o2, es, rfl, hes⟩ := hn.inv
   simp -dsimp -implicitDefEqProofs only [go_sem, Nat.reduceAdd, Nat.reduceEqDiff, reduceIte, reduceCtorEq, Nat.reduceLeDiff, Nat.reduceLT, Nat.reduceSub, Int.reduceEq, Int.reduceLT, Hc1', zeroN, ldCells]
   refine DfrV_one b52 rfl rfl rfl ?_; delta b52
   simp -dsimp -implicitDefEqProofs only [go_sem, Nat.reduceAdd, Nat.reduceEqDiff, reduceIte, reduceCtorEq, Nat.reduceLeDiff, Nat.reduceLT, Nat.reduceSub, Int.reduceEq, Int.reduceLT, Hc', u2, u1, Hp2, pcell, ldCells, w2]
   change OptK _ _ Veil.mk
   simp -dsimp -implicitDefEqProofs only [go_sem, Nat.reduceAdd, Nat.reduceEqDiff, reduceIte, reduceCtorEq, Nat.reduceLeDiff, Nat.reduceLT, Nat.reduceSub, Int.reduceEq, Int.reduceLT, u5, ldCells]
   refine ⟨hn, _, _, rfl, (HF2.upd _ (.inr (Nat.le_succ _)) (Nat.le_refl _)).upd _ (.inl (by simp)) (Nat.le_refl _), ?_⟩
   rw [upd_same]; rfl
end
section
variable {T : List Tok} {p : Nat} {o : Own}
theorem round_reads {g : Nat} {rn : PS → Option (Nd × PS)} (hg : Reads T p o g rn) {s s' : PS} {n : Nd} (hi : Inv T s) (hr : roundR T rn s = some (n, s')) :
  (s'.deep = s.deep ∧ Inv T s') ∧ ∀ h c d, h p = some (pcell o T s) → p < c → Does X 91 [.ptr p 0, .func g [] []] ⟨h, c, d⟩ (NK p o T h c d n s') := by
 unfold roundR at hr
 split at hr
 case h_2 => cases hr
 rename_i n2 s2 h2
 injection hr with hr; injection hr with r1 r2
 subst r1; subst r2
 obtain ⟨⟨hd, I2⟩, hc⟩ := in_reads hg (hi.must _) h2
 refine ⟨⟨by rw [must_deep, hd, must_deep], I2.must _⟩, fun h c d hp hpc => ?_⟩
 refine call_aw b91 rfl rfl rfl ?_; delta b91
 simp -dsimp -implicitDefEqProofs only [go_sem, Nat.reduceAdd, Nat.reduceEqDiff, reduceIte, reduceCtorEq, Nat.reduceLeDiff, Nat.reduceLT, Nat.reduceSub, Int.reduceEq, Int.reduceLT, preH, OpK_alloc, ldCells, fillV, zeroN, zeroT, pcell, hp]
 have u1_0 : ∀ h x, upd h (c) x (p) = h (p) := fun h x => upd_ne h x (by omega)
 have u0_1 : ∀ h x, upd h (p) x (c) = h (c) := fun h x => upd_ne h x (by omega)
 refine DoesK_of (must_call (s := s) (o := o) (p := p) hi (by first | exact hp | (simp only [u0_1, u1_0, upd_same, hp]; done) | (simp only [u0_1, u1_0, upd_same, hp]; rfl) | rfl) (by omega) [40]) ?_
 rintro v st ⟨rfl, H1, C1, rfl, f1, P1⟩
 have F1 : Fr h c H1 C1 [p] := by
  refine Fr.trans ?_ f1 (by simp)
  refine Fr.more (c1 := c) ?_ (by omega)
  repeat (first | exact (Fr.refl h c [p]) | refine Fr.upd (c1 := c) ?_ _ (by first | (right; omega) | (left; simp; done)) (Nat.le_refl _))
 have L1 := F1.le
 have M1 := f1.le
 have Z1_1 : H1 (c) = some (.cells zeroN) := (f1.at (by omega) (by simp; omega)).trans (by first | (simp only [u0_1, u1_0, upd_same]; done) | rfl | (simp only [u0_1, u1_0, upd_same]; rfl))
 simp -dsimp -implicitDefEqProofs only [go_sem, Nat.reduceAdd, Nat.reduceEqDiff, reduceIte, reduceCtorEq, Nat.reduceLeDiff, Nat.reduceLT, Nat.reduceSub, Int.reduceEq, Int.reduceLT, preH, OpK_alloc, ldCells, fillV, zeroN, zeroT, pcell, u0_1, u1_0, P1, Z1_1]
 have u2_0 : ∀ h x, upd h (C1) x (p) = h (p) := fun h x => upd_ne h x (by omega)
 have u0_2 : ∀ h x, upd h (p) x (C1) = h (C1) := fun h x => upd_ne h x (by omega)
 have u2_1 : ∀ h x, upd h (C1) x (c) = h (c) := fun h x => upd_ne h x (by omega)
 have u1_2 : ∀ h x, upd h (c) x (C1) = h (C1) := fun h x => upd_ne h x (by omega)
 have U0 : _ ∧ _ ∧ _ ∧ _ ∧ _ ∧ _ := ⟨u0_1, u0_2, u1_0, u1_2, u2_0, u2_1⟩
 refine DoesK_of (hc _ _ _ (by first | exact P1 | (simp only [U0, upd_same, P1]; done) | (simp only [U0, upd_same, P1]; rfl) | rfl) (by omega)) ?_
 rintro v st ⟨N2, H2, C2, rfl, f2, P2⟩
 have F2 : Fr h c H2 C2 [p] := by
  refine Fr.trans ?_ f2 (by simp)
  refine Fr.more (c1 := C1) ?_ (by omega)
  repeat (first | exact F1 | refine Fr.upd (c1 := C1) ?_ _ (by first | (right; omega) | (left; simp; done)) (Nat.le_refl _))
 have L2 := F2.le
 have M2 := f2.le
 have Z2_1 : H2 (c) = some (.cells zeroN) := (f2.at (by omega) (by simp; omega)).trans (by first | (simp only [U0, upd_same, Z1_1]; done) | rfl | (simp only [U0, upd_same, Z1_1]; rfl))
 have Z2_2 : H2 (C1) = some (.cells zeroN) := (f2.at (by omega) (by simp; omega)).trans (by first | (simp only [U0, upd_same]; done) | rfl | (simp only [U0, upd_same]; rfl))
 obtain ⟨o2a, o2b, es2, rfl, E2⟩ := N2.inv
 simp -dsimp -implicitDefEqProofs only [go_sem, Nat.reduceAdd, Nat.reduceEqDiff, reduceIte, reduceCtorEq, Nat.reduceLeDiff, Nat.reduceLT, Nat.reduceSub, Int.reduceEq, Int.reduceLT, preH, OpK_alloc, ldCells, fillV, zeroN, zeroT, pcell, U0, P2, Z2_1, Z2_2]
 refine DoesK_of (must_call (o := o) (p := p) I2 (by first | exact P2 | (simp only [U0, upd_same, P2]; done) | (simp only [U0, upd_same, P2]; rfl) | rfl) (by omega) [41]) ?_
 rintro v st ⟨rfl, H3, C3, rfl, f3, P3⟩
 have F3 : Fr h c H3 C3 [p] := by
  refine Fr.trans ?_ f3 (by simp)
  refine Fr.more (c1 := C2) ?_ (by omega)
  repeat (first | exact F2 | refine Fr.upd (c1 := C2) ?_ _ (by first | (right; omega) | (left; simp; done)) (Nat.le_refl _))
 have L3 := F3.le
 have M3 := f3.le
 have Z3_1 : H3 (c) = some (.cells zeroN) := (f3.at (by omega) (by simp; omega)).trans (by first | (simp only [U0, upd_same, Z2_1]; done) | rfl | (simp only [U0, upd_same, Z2_1]; rfl))
 have Z3_2 : H3 (C1) = some (.cells [.int .i64 n2.k, .str n2.t, .int .i64 n2.n, .int .i64 n2.a, .slice o2a (n2.ns.map AV.str), .slice o2b es2]) := (f3.at (by omega) (by simp; omega)).trans (by first | (simp only [U0, upd_same]; done) | rfl | (simp only [U0, upd_same]; rfl))
 simp -dsimp -implicitDefEqProofs only [go_sem, Nat.reduceAdd, Nat.reduceEqDiff, reduceIte, reduceCtorEq, Nat.reduceLeDiff, Nat.reduceLT, Nat.reduceSub, Int.reduceEq, Int.reduceLT, preH, OpK_alloc, ldCells, fillV, zeroN, zeroT, pcell, U0, P3, Z3_1, Z3_2]
 exact ⟨N2, _, _, rfl, (by
   refine Fr.more (c1 := C3) ?_ (by omega)
   repeat (first | exact F3 | refine Fr.upd (c1 := C3) ?_ _ (by first | (right; omega) | (left; simp; done)) (Nat.le_refl _))), (by first | exact P3 | (simp only [U0, upd_same, P3]; done) | (simp only [U0, upd_same, P3]; rfl) | rfl)⟩
theorem whole_reads {rn : PS → Option (Nd × PS)} (hg : Reads T p o 35 rn) {s s' : PS} {n : Nd} (hi : Inv T s) (hr : wholeR T rn s = some (n, s')) :
  (s'.deep = s.deep ∧ Inv T s') ∧ ∀ h c d, h p = some (pcell o T s) → p < c → Does X 101 [.ptr p 0] ⟨h, c, d⟩ (NK p o T h c d n s') := by
 unfold wholeR at hr
 split at hr
 case h_2 => cases hr
 rename_i n2 s2 h2
 injection hr with hr; injection hr with r1 r2
 subst r1; subst r2
 have hi0 : Inv T { s with flat := false } := hi.same rfl rfl
 obtain ⟨⟨hd, I1⟩, hc⟩ := in_reads hg hi0 h2
 refine ⟨⟨hd, I1.same rfl rfl⟩, fun h c d hp hpc => ?_⟩
 refine call_aw b101 rfl rfl rfl ?_; delta b101
 have u1_0 : ∀ h x, upd h (c) x (p) = h (p) := fun h x => upd_ne h x (by omega)
 have u0_1 : ∀ h x, upd h (p) x (c) = h (c) := fun h x => upd_ne h x (by omega)
 simp -dsimp -implicitDefEqProofs only [go_sem, Nat.reduceAdd, Nat.reduceEqDiff, reduceIte, reduceCtorEq, Nat.reduceLeDiff, Nat.reduceLT, Nat.reduceSub, Int.reduceEq, Int.reduceLT, preH, OpK_alloc, ldCells, fillV, zeroN, zeroT, pcell, u0_1, u1_0, hp]
 have u2_0 : ∀ h x, upd h (c + 1) x (p) = h (p) := fun h x => upd_ne h x (by omega)
 have u0_2 : ∀ h x, upd h (p) x (c + 1) = h (c + 1) := fun h x => upd_ne h x (by omega)
 have u2_1 : ∀ h x, upd h (c + 1) x (c) = h (c) := fun h x => upd_ne h x (by omega)
 have u1_2 : ∀ h x, upd h (c) x (c + 1) = h (c + 1) := fun h x => upd_ne h x (by omega)
 have U1 : _ ∧ _ ∧ _ ∧ _ ∧ _ ∧ _ := ⟨u0_1, u0_2, u1_0, u1_2, u2_0, u2_1⟩
 refine DoesK_of (hc _ _ _ (by first | exact hp | (simp only [U1, upd_same, hp]; done) | (simp only [U1, upd_same, hp]; rfl) | rfl) (by omega)) ?_
 rintro v st ⟨N1, H1, C1, rfl, f1, P1⟩
 have F1 : Fr h c H1 C1 [p] := by
  refine Fr.trans ?_ f1 (by simp)
  refine Fr.more (c1 := c) ?_ (by omega)
  repeat (first | exact (Fr.refl h c [p]) | refine Fr.upd (c1 := c) ?_ _ (by first | (right; omega) | (left; simp; done)) (Nat.le_refl _))
 have L1 := F1.le
 have M1 := f1.le
 have Z1_1 : H1 (c) = some (.cells zeroN) := (f1.at (by omega) (by simp; omega)).trans (by first | (simp only [U1, upd_same]; done) | rfl | (simp only [U1, upd_same]; rfl))
 have Z1_2 : H1 (c + 1) = some (.cells zeroN) := (f1.at (by omega) (by simp; omega)).trans (by first | (simp only [U1, upd_same]; done) | rfl | (simp only [U1, upd_same]; rfl))
 obtain ⟨o1a, o1b, es1, rfl, E1⟩ := N1.inv
 simp -dsimp -implicitDefEqProofs only [go_sem, Nat.reduceAdd, Nat.reduceEqDiff, reduceIte, reduceCtorEq, Nat.reduceLeDiff, Nat.reduceLT, Nat.reduceSub, Int.reduceEq, Int.reduceLT, preH, OpK_alloc, ldCells, fillV, zeroN, zeroT, pcell, U1, P1, Z1_1, Z1_2]
 exact ⟨N1, _, _, rfl, (by
   refine Fr.more (c1 := C1) ?_ (by omega)
   repeat (first | exact F1 | refine Fr.upd (c1 := C1) ?_ _ (by first | (right; omega) | (left; simp; done)) (Nat.le_refl _))), (by first | exact P1 | (simp only [U1, upd_same, P1]; done) | (simp only [U1, upd_same, P1]; rfl) | rfl)⟩
theorem leaf_reads (f : Int → Int) (m : Nat) (es : List (AV × AV × Nat)) (k : Nat) (hf : ∀ x : Int, keyed (.one .int) (.int .i64 x) (lookV (.one .int) (.int .i64 0) false (.int .i64 x) es) = some (.int .i64 (f x))) {s : PS} (hi : Inv T s) :
  ∀ h c d, h p = some (pcell o T s) → p < c → m < c → m ≠ p → h m = some (.map es k) → Does X 102 [.ptr p 0, .map m] ⟨h, c, d⟩ (NK p o T h c d (leaf T f s).1 (leaf T f s).2) := by
 intro h c d hp hpc hmc hmp hm
 refine call_aw b102 rfl rfl rfl ?_; delta b102
 have hmm : ∀ h0 : Hp, h0 m = some (.map es k) → ∀ x : Int, keyed (.one .int) (.int .i64 x) (lookM (.one .int) (.int .i64 0) false h0 (.int .i64 x) (.map m)) = some (.int .i64 (f x)) := by
  intro h0 h1 x
  simp only [lookM, h1, lookObj]
  exact hf x
 have u1_0 : ∀ h x, upd h (c) x (p) = h (p) := fun h x => upd_ne h x (by omega)
 have u0_1 : ∀ h x, upd h (p) x (c) = h (c) := fun h x => upd_ne h x (by omega)
 have u2_0 : ∀ h x, upd h (m) x (p) = h (p) := fun h x => upd_ne h x (by omega)
 have u0_2 : ∀ h x, upd h (p) x (m) = h (m) := fun h x => upd_ne h x (by omega)
 have u2_1 : ∀ h x, upd h (m) x (c) = h (c) := fun h x => upd_ne h x (by omega)
 have u1_2 : ∀ h x, upd h (c) x (m) = h (m) := fun h x => upd_ne h x (by omega)
 have U2 : _ ∧ _ ∧ _ ∧ _ ∧ _ ∧ _ := ⟨u0_1, u0_2, u1_0, u1_2, u2_0, u2_1⟩
 simp -dsimp -implicitDefEqProofs only [go_sem, Nat.reduceAdd, Nat.reduceEqDiff, reduceIte, reduceCtorEq, Nat.reduceLeDiff, Nat.reduceLT, Nat.reduceSub, Int.reduceEq, Int.reduceLT, preH, OpK_alloc, ldCells, fillV, zeroN, zeroT, pcell, U2, hp]
 have u3_0 : ∀ h x, upd h (c + 1) x (p) = h (p) := fun h x => upd_ne h x (by omega)
 have u0_3 : ∀ h x, upd h (p) x (c + 1) = h (c + 1) := fun h x => upd_ne h x (by omega)
 have u3_1 : ∀ h x, upd h (c + 1) x (c) = h (c) := fun h x => upd_ne h x (by omega)
 have u1_3 : ∀ h x, upd h (c) x (c + 1) = h (c + 1) := fun h x => upd_ne h x (by omega)
 have u3_2 : ∀ h x, upd h (c + 1) x (m) = h (m) := fun h x => upd_ne h x (by omega)
 have u2_3 : ∀ h x, upd h (m) x (c + 1) = h (c + 1) := fun h x => upd_ne h x (by omega)
 have U3 : _ ∧ _ ∧ _ ∧ _ ∧ _ ∧ _ ∧ _ ∧ _ ∧ _ ∧ _ ∧ _ ∧ _ := ⟨u0_1, u0_2, u0_3, u1_0, u1_2, u1_3, u2_0, u2_1, u2_3, u3_0, u3_1, u3_2⟩
 refine DoesK_of (look_call (s := s) (o := o) (p := p) hi (by first | exact hp | (simp only [U3, upd_same, hp]; done) | (simp only [U3, upd_same, hp]; rfl) | rfl) (by omega)) ?_
 rintro v st ⟨rfl, H1, C1, rfl, f1, P1⟩
 have F1 : Fr h c H1 C1 [p] := by
  refine Fr.trans ?_ f1 (by simp)
  refine Fr.more (c1 := c) ?_ (by omega)
  repeat (first | exact (Fr.refl h c [p]) | refine Fr.upd (c1 := c) ?_ _ (by first | (right; omega) | (left; simp; done)) (Nat.le_refl _))
 have L1 := F1.le
 have M1 := f1.le
 have Z1_1 : H1 (c) = some (.cells zeroN) := (f1.at (by omega) (by simp; omega)).trans (by first | (simp only [U3, upd_same]; done) | rfl | (simp only [U3, upd_same]; rfl))
 have Z1_3 : H1 (c + 1) = some (.cells zeroT) := (f1.at (by omega) (by simp; omega)).trans (by first | (simp only [U3, upd_same]; done) | rfl | (simp only [U3, upd_same]; rfl))
 have ZM1 : H1 m = some (.map es k) := (f1.at (by omega) (by simp; omega)).trans (by simp only [U3, hm])
 rw [leaf]
 obtain ⟨tt, tn, ta, hfl⟩ : ∃ tt tn ta, look T s = (⟨(look T s).1.k, tt, tn⟩, ta) := ⟨_, _, _, rfl⟩
 have hlk := hmm (upd H1 (c + 1) (.cells [.int .i64 (look T s).1.k, .str (look T s).1.t, .int .i64 (look T s).1.n, .int .i64 ((look T s).2 : Int)])) (by simp only [U3, ZM1]) (look T s).1.k
 clear hfl
 simp -dsimp -implicitDefEqProofs only [go_sem, Nat.reduceAdd, Nat.reduceEqDiff, reduceIte, reduceCtorEq, Nat.reduceLeDiff, Nat.reduceLT, Nat.reduceSub, Int.reduceEq, Int.reduceLT, preH, OpK_alloc, ldCells, fillV, zeroN, zeroT, pcell, U3, P1, Z1_1, Z1_3, tkV, tokC, hlk, Z1_3]
 refine CondV_split (fun hq => ?_) fun hq => ?_
 ·rw [if_pos (by simpa using hq)]
  simp -dsimp -implicitDefEqProofs only [go_sem, Nat.reduceAdd, Nat.reduceEqDiff, reduceIte, reduceCtorEq, Nat.reduceLeDiff, Nat.reduceLT, Nat.reduceSub, Int.reduceEq, Int.reduceLT, preH, OpK_alloc, ldCells, fillV, zeroN, zeroT, pcell, U3, P1, Z1_1]
  refine DoesK_of (fail_call (s := s) (o := o) (p := p) hi (by first | exact P1 | (simp only [U3, upd_same, P1]; done) | (simp only [U3, upd_same, P1]; rfl) | rfl) (by omega) 14) ?_
  rintro v st ⟨rfl, H2, C2, rfl, f2, P2⟩
  have F2 : Fr h c H2 C2 [p] := by
   refine Fr.trans ?_ f2 (by simp)
   refine Fr.more (c1 := C1) ?_ (by omega)
   repeat (first | exact F1 | refine Fr.upd (c1 := C1) ?_ _ (by first | (right; omega) | (left; simp; done)) (Nat.le_refl _))
  have L2 := F2.le
  have M2 := f2.le
  have Z2_1 : H2 (c) = some (.cells zeroN) := (f2.at (by omega) (by simp; omega)).trans (by first | (simp only [U3, upd_same, Z1_1]; done) | rfl | (simp only [U3, upd_same, Z1_1]; rfl))
  have Z2_3 : H2 (c + 1) = some (.cells [.int .i64 (look T s).1.k, .str (look T s).1.t, .int .i64 (look T s).1.n, .int .i64 ((look T s).2 : Int)]) := (f2.at (by omega) (by simp; omega)).trans (by first | (simp only [U3, upd_same]; done) | rfl | (simp only [U3, upd_same]; rfl))
  simp -dsimp -implicitDefEqProofs only [go_sem, Nat.reduceAdd, Nat.reduceEqDiff, reduceIte, reduceCtorEq, Nat.reduceLeDiff, Nat.reduceLT, Nat.reduceSub, Int.reduceEq, Int.reduceLT, preH, OpK_alloc, ldCells, fillV, zeroN, zeroT, pcell, U3, P2, Z2_1, Z2_3]
  exact ⟨NR.zero, _, _, rfl, (by
    refine Fr.more (c1 := C2) ?_ (by omega)
    repeat (first | exact F2 | refine Fr.upd (c1 := C2) ?_ _ (by first | (right; omega) | (left; simp; done)) (Nat.le_refl _))), (by first | exact P2 | (simp only [U3, upd_same, P2]; done) | (simp only [U3, upd_same, P2]; rfl) | rfl)⟩
 ·rw [if_neg (by simpa using hq)]
  simp -dsimp -implicitDefEqProofs only [go_sem, Nat.reduceAdd, Nat.reduceEqDiff, reduceIte, reduceCtorEq, Nat.reduceLeDiff, Nat.reduceLT, Nat.reduceSub, Int.reduceEq, Int.reduceLT, preH, OpK_alloc, ldCells, fillV, zeroN, zeroT, pcell, U3, P1, Z1_1]
  refine DoesK_of (take_call (s := s) (o := o) (p := p) hi (by first | exact P1 | (simp only [U3, upd_same, P1]; done) | (simp only [U3, upd_same, P1]; rfl) | rfl) (by omega)) ?_
  rintro v st ⟨rfl, H2, C2, rfl, f2, P2⟩
  have F2 : Fr h c H2 C2 [p] := by
   refine Fr.trans ?_ f2 (by simp)
   refine Fr.more (c1 := C1) ?_ (by omega)
   repeat (first | exact F1 | refine Fr.upd (c1 := C1) ?_ _ (by first | (right; omega) | (left; simp; done)) (Nat.le_refl _))
  have L2 := F2.le
  have M2 := f2.le
  have Z2_1 : H2 (c) = some (.cells zeroN) := (f2.at (by omega) (by simp; omega)).trans (by first | (simp only [U3, upd_same, Z1_1]; done) | rfl | (simp only [U3, upd_same, Z1_1]; rfl))
  have Z2_3 : H2 (c + 1) = some (.cells [.int .i64 (look T s).1.k, .str (look T s).1.t, .int .i64 (look T s).1.n, .int .i64 ((look T s).2 : Int)]) := (f2.at (by omega) (by simp; omega)).trans (by first | (simp only [U3, upd_same]; done) | rfl | (simp only [U3, upd_same]; rfl))
  simp -dsimp -implicitDefEqProofs only [go_sem, Nat.reduceAdd, Nat.reduceEqDiff, reduceIte, reduceCtorEq, Nat.reduceLeDiff, Nat.reduceLT, Nat.reduceSub, Int.reduceEq, Int.reduceLT, preH, OpK_alloc, ldCells, fillV, zeroN, zeroT, pcell, U3, P2, Z2_1, Z2_3]
  exact ⟨.mk rfl (fun i x v h => by simp at h), _, _, rfl, (by
    refine Fr.more (c1 := C2) ?_ (by omega)
    repeat (first | exact F2 | refine Fr.upd (c1 := C2) ?_ _ (by first | (right; omega) | (left; simp; done)) (Nat.le_refl _))), (by first | exact P2 | (simp only [U3, upd_same, P2]; done) | (simp only [U3, upd_same, P2]; rfl) | rfl)⟩
end
section
variable {T : List Tok} {p : Nat} {o : Own}
theorem fld_t (t : Tok) : fldV false 1 1 (tkV t) = some (.str t.1.t) := rfl
theorem fld_a (t : Tok) : fldV false 1 3 (tkV t) = some (.int .i64 (t.2 : Int)) := rfl
theorem fld_k (t : Tok) : fldV false 1 0 (tkV t) = some (.int .i64 t.1.k) := rfl
set_option maxHeartbeats 2000000 in
theorem fun_reads {f : Nat} (hg : Reads T p o 35 (run T f .exp)) : Reads T p o 66 (run T (f + 1) .funE) := by
 intro s n s' hi hr
 rw [run_funE] at hr
 dsimp only at hr
 split at hr
 case h_2 => cases hr
 rename_i n2 s2 h2
 injection hr with hr; injection hr with r1 r2
 subst r1; subst r2
 have i1 := hi.take
 have i2 := i1.word 3
 have i3 := i2.take
 have i4 := i3.must wArrow
 obtain ⟨⟨hd, I5⟩, hc⟩ := in_reads hg i4 h2
 refine ⟨⟨by rw [hd, must_deep, take_deep, word_deep, take_deep], I5⟩, fun h c d hp hpc => ?_⟩
 refine call_aw b66 rfl rfl rfl ?_; delta b66
 have u1_0 : ∀ h x, upd h (c) x (p) = h (p) := fun h x => upd_ne h x (by omega)
 have u0_1 : ∀ h x, upd h (p) x (c) = h (c) := fun h x => upd_ne h x (by omega)
 simp -dsimp -implicitDefEqProofs only [go_sem, Nat.reduceAdd, Nat.reduceEqDiff, reduceIte, reduceCtorEq, Nat.reduceLeDiff, Nat.reduceLT, Nat.reduceSub, Int.reduceEq, Int.reduceLT, preH, OpK_alloc, ldCells, fillV, zeroN, zeroT, pcell, u0_1, u1_0, hp]
 refine DoesK_of (take_call (o := o) (p := p) hi (by first | exact hp | (simp only [u0_1, u1_0, upd_same, hp]; done) | (simp only [u0_1, u1_0, upd_same, hp]; rfl) | rfl) (by omega)) ?_
 rintro v st ⟨rfl, H1, C1, rfl, f1, P1⟩
 have F1 : Fr h c H1 C1 [p] := by
  refine Fr.trans ?_ f1 (by simp)
  refine Fr.more (c1 := c) ?_ (by omega)
  repeat (first | exact (Fr.refl h c [p]) | refine Fr.upd (c1 := c) ?_ _ (by first | (right; omega) | (left; simp; done)) (Nat.le_refl _))
 have L1 := F1.le
 have M1 := f1.le
 have Z1_1 : H1 (c) = some (.cells zeroN) := (f1.at (by omega) (by simp; omega)).trans (by first | (simp only [u0_1, u1_0, upd_same]; done) | rfl | (simp only [u0_1, u1_0, upd_same]; rfl))
 simp -dsimp -implicitDefEqProofs only [go_sem, Nat.reduceAdd, Nat.reduceEqDiff, reduceIte, reduceCtorEq, Nat.reduceLeDiff, Nat.reduceLT, Nat.reduceSub, Int.reduceEq, Int.reduceLT, preH, OpK_alloc, ldCells, fillV, zeroN, zeroT, pcell, u0_1, u1_0, P1, Z1_1, fld_a]
 refine DoesK_of (word_call (o := o) (p := p) i1 (by first | exact P1 | (simp only [u0_1, u1_0, upd_same, P1]; done) | (simp only [u0_1, u1_0, upd_same, P1]; rfl) | rfl) (by omega) 3) ?_
 rintro v st ⟨rfl, H2, C2, rfl, f2, P2⟩
 have F2 : Fr h c H2 C2 [p] := by
  refine Fr.trans ?_ f2 (by simp)
  refine Fr.more (c1 := C1) ?_ (by omega)
  repeat (first | exact F1 | refine Fr.upd (c1 := C1) ?_ _ (by first | (right; omega) | (left; simp; done)) (Nat.le_refl _))
 have L2 := F2.le
 have M2 := f2.le
 have Z2_1 : H2 (c) = some (.cells zeroN) := (f2.at (by omega) (by simp; omega)).trans (by first | (simp only [u0_1, u1_0, upd_same, Z1_1]; done) | rfl | (simp only [u0_1, u1_0, upd_same, Z1_1]; rfl))
 simp -dsimp -implicitDefEqProofs only [go_sem, Nat.reduceAdd, Nat.reduceEqDiff, reduceIte, reduceCtorEq, Nat.reduceLeDiff, Nat.reduceLT, Nat.reduceSub, Int.reduceEq, Int.reduceLT, preH, OpK_alloc, ldCells, fillV, zeroN, zeroT, pcell, u0_1, u1_0, P2, Z2_1, fld_t]
 refine DoesK_of (must_call (o := o) (p := p) i3 (by first | exact P2 | (simp only [u0_1, u1_0, upd_same, P2]; done) | (simp only [u0_1, u1_0, upd_same, P2]; rfl) | rfl) (by omega) wArrow) ?_
 rintro v st ⟨rfl, H3, C3, rfl, f3, P3⟩
 have F3 : Fr h c H3 C3 [p] := by
  refine Fr.trans ?_ f3 (by simp)
  refine Fr.more (c1 := C2) ?_ (by omega)
  repeat (first | exact F2 | refine Fr.upd (c1 := C2) ?_ _ (by first | (right; omega) | (left; simp; done)) (Nat.le_refl _))
 have L3 := F3.le
 have M3 := f3.le
 have Z3_1 : H3 (c) = some (.cells zeroN) := (f3.at (by omega) (by simp; omega)).trans (by first | (simp only [u0_1, u1_0, upd_same, Z2_1]; done) | rfl | (simp only [u0_1, u1_0, upd_same, Z2_1]; rfl))
 simp -dsimp -implicitDefEqProofs only [go_sem, Nat.reduceAdd, Nat.reduceEqDiff, reduceIte, reduceCtorEq, Nat.reduceLeDiff, Nat.reduceLT, Nat.reduceSub, Int.reduceEq, Int.reduceLT, preH, OpK_alloc, ldCells, fillV, zeroN, zeroT, pcell, u0_1, u1_0, P3, Z3_1]
 refine DoesK_of (hc _ _ _ (by first | exact P3 | (simp only [u0_1, u1_0, upd_same, P3]; done) | (simp only [u0_1, u1_0, upd_same, P3]; rfl) | rfl) (by omega)) ?_
 rintro v st ⟨N4, H4, C4, rfl, f4, P4⟩
 have F4 : Fr h c H4 C4 [p] := by
  refine Fr.trans ?_ f4 (by simp)
  refine Fr.more (c1 := C3) ?_ (by omega)
  repeat (first | exact F3 | refine Fr.upd (c1 := C3) ?_ _ (by first | (right; omega) | (left; simp; done)) (Nat.le_refl _))
 have L4 := F4.le
 have M4 := f4.le
 have Z4_1 : H4 (c) = some (.cells zeroN) := (f4.at (by omega) (by simp; omega)).trans (by first | (simp only [u0_1, u1_0, upd_same, Z3_1]; done) | rfl | (simp only [u0_1, u1_0, upd_same, Z3_1]; rfl))
 obtain ⟨o4a, o4b, es4, rfl, E4⟩ := N4.inv
 simp -dsimp -implicitDefEqProofs only [go_sem, Nat.reduceAdd, Nat.reduceEqDiff, reduceIte, reduceCtorEq, Nat.reduceLeDiff, Nat.reduceLT, Nat.reduceSub, Int.reduceEq, Int.reduceLT, preH, OpK_alloc, ldCells, fillV, zeroN, zeroT, pcell, u0_1, u1_0, P4, Z4_1, partsV]
 refine DoesK_of (node_call 6 _ _ .full _ _ _ _) ?_
 rintro v st ⟨rfl, H5, C5, rfl, f5⟩
 have F5 : Fr h c H5 C5 [p] := by
  refine Fr.trans ?_ f5 (by simp)
  refine Fr.more (c1 := C4) ?_ (by omega)
  repeat (first | exact F4 | refine Fr.upd (c1 := C4) ?_ _ (by first | (right; omega) | (left; simp; done)) (Nat.le_refl _))
 have L5 := F5.le
 have M5 := f5.le
 have P5 : H5 p = _ := (f5.at (by omega) (by simp)).trans (by first | exact P4 | (simp only [u0_1, u1_0, upd_same, P4]; rfl))
 have Z5_1 : H5 (c) = some (.cells zeroN) := (f5.at (by omega) (by simp)).trans (by first | (simp only [u0_1, u1_0, upd_same, Z4_1]; done) | rfl | (simp only [u0_1, u1_0, upd_same, Z4_1]; rfl))
 simp -dsimp -implicitDefEqProofs only [go_sem, Nat.reduceAdd, Nat.reduceEqDiff, reduceIte, reduceCtorEq, Nat.reduceLeDiff, Nat.reduceLT, Nat.reduceSub, Int.reduceEq, Int.reduceLT, preH, OpK_alloc, ldCells, fillV, zeroN, zeroT, pcell, u0_1, u1_0, P5, Z5_1]
 exact ⟨.mk rfl (NRs.one N4).2, _, _, rfl, (by
   refine Fr.more (c1 := C5) ?_ (by omega)
   repeat (first | exact F5 | refine Fr.upd (c1 := C5) ?_ _ (by first | (right; omega) | (left; simp; done)) (Nat.le_refl _))), (by first | exact P5 | (simp only [u0_1, u1_0, upd_same, P5]; done) | (simp only [u0_1, u1_0, upd_same, P5]; rfl) | rfl)⟩
def VK (p : Nat) (o : Own) (T : List Tok) (h : Hp) (c : Nat) (d : List (Nat × List AV)) (name : List UInt8) (rc : Bool) (v : Nd) (s' : PS) : AV → ASt → Prop := fun w st =>
 ∃ vv, w = .tuple [.str name, .bool rc, vv] ∧ NR v vv ∧ ∃ h' c', st = ⟨h', c', d⟩ ∧ Fr h c h' c' [p] ∧ h' p = some (pcell o T s')
set_option maxHeartbeats 2000000 in
theorem value_reads {f : Nat} (hg : Reads T p o 35 (run T f .exp)) {s s' : PS} {name : List UInt8} {rc : Bool} {v : Nd} (hi : Inv T s) (hr : valueR T (run T f .exp) s = some ((name, rc, v), s')) :
  (s'.deep = s.deep ∧ Inv T s') ∧ ∀ h c d, h p = some (pcell o T s) → p < c → Does X 50 [.ptr p 0] ⟨h, c, d⟩ (VK p o T h c d name rc v s') := by
 have i1 := hi.may wRec
 have i2 := i1.word 3
 have i3 := i2.take
 have i4 := i3.must [61]
 unfold valueR at hr
 dsimp only at hr
 have d4 : (mustS T [61] (takeS T (wordS T 3 (mayS T wRec s)))).deep = s.deep := by rw [must_deep, take_deep, word_deep, may_deep]
 obtain ⟨S, hS⟩ : ∃ S, S = mustS T [61] (takeS T (wordS T 3 (mayS T wRec s))) := ⟨_, rfl⟩
 rw [← hS] at hr d4 i4
 have hY : ∃ Y, Y = (if (isW T wRec s && decide (S.deep < 40) && !isW T wFun S) = true then fail T 14 S else S) ∧ Inv T Y ∧ Y.deep = s.deep := by
  refine ⟨_, rfl, ?_, ?_⟩
  ·split
   ·exact i4.fail _
   ·exact i4
  ·split
   ·rw [fail_deep, d4]
   ·exact d4
 obtain ⟨Y, hY, i5, d5⟩ := hY
 rw [← hY] at hr
 split at hr
 case h_2 => cases hr
 rename_i n2 s2 h2
 injection hr with hr; injection hr with r1 r2
 injection r1 with r1 r3; injection r3 with r3 r4
 subst r2; subst r4
 obtain ⟨⟨hd, I5⟩, hc⟩ := in_reads hg i5 h2
 refine ⟨⟨by rw [hd, d5], I5⟩, fun h c d hp hpc => ?_⟩
 refine call_aw b50 rfl rfl rfl ?_; delta b50
 have u1_0 : ∀ h x, upd h (c) x (p) = h (p) := fun h x => upd_ne h x (by omega)
 have u0_1 : ∀ h x, upd h (p) x (c) = h (c) := fun h x => upd_ne h x (by omega)
 simp -dsimp -implicitDefEqProofs only [go_sem, Nat.reduceAdd, Nat.reduceEqDiff, reduceIte, reduceCtorEq, Nat.reduceLeDiff, Nat.reduceLT, Nat.reduceSub, Int.reduceEq, Int.reduceLT, preH, OpK_alloc, ldCells, fillV, zeroN, zeroT, pcell, u0_1, u1_0, hp]
 refine DoesK_of (may_call (o := o) (p := p) hi (by first | exact hp | (simp only [u0_1, u1_0, upd_same, hp]; done) | (simp only [u0_1, u1_0, upd_same, hp]; rfl) | rfl) (by omega) wRec) ?_
 rintro v st ⟨rfl, H1, C1, rfl, f1, P1⟩
 have F1 : Fr h c H1 C1 [p] := by
  refine Fr.trans ?_ f1 (by simp)
  refine Fr.more (c1 := c) ?_ (by omega)
  repeat (first | exact (Fr.refl h c [p]) | refine Fr.upd (c1 := c) ?_ _ (by first | (right; omega) | (left; simp; done)) (Nat.le_refl _))
 have L1 := F1.le
 have M1 := f1.le
 have Z1_1 : H1 (c) = some (.cells zeroN) := (f1.at (by omega) (by simp; omega)).trans (by first | (simp only [u0_1, u1_0, upd_same]; done) | rfl | (simp only [u0_1, u1_0, upd_same]; rfl))
 simp -dsimp -implicitDefEqProofs only [go_sem, Nat.reduceAdd, Nat.reduceEqDiff, reduceIte, reduceCtorEq, Nat.reduceLeDiff, Nat.reduceLT, Nat.reduceSub, Int.reduceEq, Int.reduceLT, preH, OpK_alloc, ldCells, fillV, zeroN, zeroT, pcell, u0_1, u1_0, P1, Z1_1]
 refine DoesK_of (word_call (o := o) (p := p) i1 (by first | exact P1 | (simp only [u0_1, u1_0, upd_same, P1]; done) | (simp only [u0_1, u1_0, upd_same, P1]; rfl) | rfl) (by omega) 3) ?_
 rintro v st ⟨rfl, H2, C2, rfl, f2, P2⟩
 have F2 : Fr h c H2 C2 [p] := by
  refine Fr.trans ?_ f2 (by simp)
  refine Fr.more (c1 := C1) ?_ (by omega)
  repeat (first | exact F1 | refine Fr.upd (c1 := C1) ?_ _ (by first | (right; omega) | (left; simp; done)) (Nat.le_refl _))
 have L2 := F2.le
 have M2 := f2.le
 have Z2_1 : H2 (c) = some (.cells zeroN) := (f2.at (by omega) (by simp; omega)).trans (by first | (simp only [u0_1, u1_0, upd_same, Z1_1]; done) | rfl | (simp only [u0_1, u1_0, upd_same, Z1_1]; rfl))
 simp -dsimp -implicitDefEqProofs only [go_sem, Nat.reduceAdd, Nat.reduceEqDiff, reduceIte, reduceCtorEq, Nat.reduceLeDiff, Nat.reduceLT, Nat.reduceSub, Int.reduceEq, Int.reduceLT, preH, OpK_alloc, ldCells, fillV, zeroN, zeroT, pcell, u0_1, u1_0, P2, Z2_1, fld_t]
 refine DoesK_of (must_call (o := o) (p := p) i3 (by first | exact P2 | (simp only [u0_1, u1_0, upd_same, P2]; done) | (simp only [u0_1, u1_0, upd_same, P2]; rfl) | rfl) (by omega) [61]) ?_
 rintro v st ⟨rfl, H3, C3, rfl, f3, P3⟩
 have F3 : Fr h c H3 C3 [p] := by
  refine Fr.trans ?_ f3 (by simp)
  refine Fr.more (c1 := C2) ?_ (by omega)
  repeat (first | exact F2 | refine Fr.upd (c1 := C2) ?_ _ (by first | (right; omega) | (left; simp; done)) (Nat.le_refl _))
 have L3 := F3.le
 have M3 := f3.le
 have Z3_1 : H3 (c) = some (.cells zeroN) := (f3.at (by omega) (by simp; omega)).trans (by first | (simp only [u0_1, u1_0, upd_same, Z2_1]; done) | rfl | (simp only [u0_1, u1_0, upd_same, Z2_1]; rfl))
 rw [← hS] at P3
 rw [r1, r3]
 rw [r3] at hY
 cases hb1 : rc
 ·rw [hb1] at hY
  simp -dsimp -implicitDefEqProofs only [go_sem, Nat.reduceAdd, Nat.reduceEqDiff, reduceIte, reduceCtorEq, Nat.reduceLeDiff, Nat.reduceLT, Nat.reduceSub, Int.reduceEq, Int.reduceLT, preH, OpK_alloc, ldCells, fillV, zeroN, zeroT, pcell, u0_1, u1_0, P3, Z3_1, hb1]
  have hYe : Y = S := by rw [hY]; simp [hb1]
  rw [← hYe] at P3
  refine DoesK_of (hc _ _ _ (by first | exact P3 | (simp only [u0_1, u1_0, upd_same, P3]; done) | (simp only [u0_1, u1_0, upd_same, P3]; rfl) | rfl) (by omega)) ?_
  rintro v st ⟨N4, H4, C4, rfl, f4, P4⟩
  have F4 : Fr h c H4 C4 [p] := by
   refine Fr.trans ?_ f4 (by simp)
   refine Fr.more (c1 := C3) ?_ (by omega)
   repeat (first | exact F3 | refine Fr.upd (c1 := C3) ?_ _ (by first | (right; omega) | (left; simp; done)) (Nat.le_refl _))
  have L4 := F4.le
  have M4 := f4.le
  have Z4_1 : H4 (c) = some (.cells zeroN) := (f4.at (by omega) (by simp; omega)).trans (by first | (simp only [u0_1, u1_0, upd_same, Z3_1]; done) | rfl | (simp only [u0_1, u1_0, upd_same, Z3_1]; rfl))
  obtain ⟨o4a, o4b, es4, rfl, E4⟩ := N4.inv
  simp -dsimp -implicitDefEqProofs only [go_sem, Nat.reduceAdd, Nat.reduceEqDiff, reduceIte, reduceCtorEq, Nat.reduceLeDiff, Nat.reduceLT, Nat.reduceSub, Int.reduceEq, Int.reduceLT, preH, OpK_alloc, ldCells, fillV, zeroN, zeroT, pcell, u0_1, u1_0, P4, Z4_1]
  exact ⟨_, rfl, N4, _, _, rfl, (by
    refine Fr.more (c1 := C4) ?_ (by omega)
    repeat (first | exact F4 | refine Fr.upd (c1 := C4) ?_ _ (by first | (right; omega) | (left; simp; done)) (Nat.le_refl _))), (by first | exact P4 | (simp only [u0_1, u1_0, upd_same, P4]; done) | (simp only [u0_1, u1_0, upd_same, P4]; rfl) | rfl)⟩
 ·rw [hb1] at hY
  cases hb2 : decide (S.deep < 40)
  ·rw [hb2] at hY
   simp -dsimp -implicitDefEqProofs only [go_sem, Nat.reduceAdd, Nat.reduceEqDiff, reduceIte, reduceCtorEq, Nat.reduceLeDiff, Nat.reduceLT, Nat.reduceSub, Int.reduceEq, Int.reduceLT, preH, OpK_alloc, ldCells, fillV, zeroN, zeroT, pcell, u0_1, u1_0, P3, Z3_1, hb1, hb2]
   have hYe : Y = S := by rw [hY]; simp [hb2]
   rw [← hYe] at P3
   refine DoesK_of (hc _ _ _ (by first | exact P3 | (simp only [u0_1, u1_0, upd_same, P3]; done) | (simp only [u0_1, u1_0, upd_same, P3]; rfl) | rfl) (by omega)) ?_
   rintro v st ⟨N4, H4, C4, rfl, f4, P4⟩
   have F4 : Fr h c H4 C4 [p] := by
    refine Fr.trans ?_ f4 (by simp)
    refine Fr.more (c1 := C3) ?_ (by omega)
    repeat (first | exact F3 | refine Fr.upd (c1 := C3) ?_ _ (by first | (right; omega) | (left; simp; done)) (Nat.le_refl _))
   have L4 := F4.le
   have M4 := f4.le
   have Z4_1 : H4 (c) = some (.cells zeroN) := (f4.at (by omega) (by simp; omega)).trans (by first | (simp only [u0_1, u1_0, upd_same, Z3_1]; done) | rfl | (simp only [u0_1, u1_0, upd_same, Z3_1]; rfl))
   obtain ⟨o4a, o4b, es4, rfl, E4⟩ := N4.inv
   simp -dsimp -implicitDefEqProofs only [go_sem, Nat.reduceAdd, Nat.reduceEqDiff, reduceIte, reduceCtorEq, Nat.reduceLeDiff, Nat.reduceLT, Nat.reduceSub, Int.reduceEq, Int.reduceLT, preH, OpK_alloc, ldCells, fillV, zeroN, zeroT, pcell, u0_1, u1_0, P4, Z4_1]
   exact ⟨_, rfl, N4, _, _, rfl, (by
     refine Fr.more (c1 := C4) ?_ (by omega)
     repeat (first | exact F4 | refine Fr.upd (c1 := C4) ?_ _ (by first | (right; omega) | (left; simp; done)) (Nat.le_refl _))), (by first | exact P4 | (simp only [u0_1, u1_0, upd_same, P4]; done) | (simp only [u0_1, u1_0, upd_same, P4]; rfl) | rfl)⟩
  ·rw [hb2] at hY
   simp -dsimp -implicitDefEqProofs only [go_sem, Nat.reduceAdd, Nat.reduceEqDiff, reduceIte, reduceCtorEq, Nat.reduceLeDiff, Nat.reduceLT, Nat.reduceSub, Int.reduceEq, Int.reduceLT, preH, OpK_alloc, ldCells, fillV, zeroN, zeroT, pcell, u0_1, u1_0, P3, Z3_1, hb1, hb2]
   refine DoesK_of (isw_call (o := o) (p := p) i4 (by first | exact P3 | (simp only [u0_1, u1_0, upd_same, P3]; done) | (simp only [u0_1, u1_0, upd_same, P3]; rfl) | rfl) (by omega) wFun) ?_
   rintro v st ⟨rfl, H4, C4, rfl, f4, P4⟩
   have F4 : Fr h c H4 C4 [p] := by
    refine Fr.trans ?_ f4 (by simp)
    refine Fr.more (c1 := C3) ?_ (by omega)
    repeat (first | exact F3 | refine Fr.upd (c1 := C3) ?_ _ (by first | (right; omega) | (left; simp; done)) (Nat.le_refl _))
   have L4 := F4.le
   have M4 := f4.le
   have Z4_1 : H4 (c) = some (.cells zeroN) := (f4.at (by omega) (by simp; omega)).trans (by first | (simp only [u0_1, u1_0, upd_same, Z3_1]; done) | rfl | (simp only [u0_1, u1_0, upd_same, Z3_1]; rfl))
   cases hb3 : isW T wFun S
   ·rw [hb3] at hY
    simp -dsimp -implicitDefEqProofs only [go_sem, Nat.reduceAdd, Nat.reduceEqDiff, reduceIte, reduceCtorEq, Nat.reduceLeDiff, Nat.reduceLT, Nat.reduceSub, Int.reduceEq, Int.reduceLT, preH, OpK_alloc, ldCells, fillV, zeroN, zeroT, pcell, u0_1, u1_0, P4, Z4_1, hb3]
    refine DoesK_of (fail_call (o := o) (p := p) i4 (by first | exact P4 | (simp only [u0_1, u1_0, upd_same, P4]; done) | (simp only [u0_1, u1_0, upd_same, P4]; rfl) | rfl) (by omega) 14) ?_
    rintro v st ⟨rfl, H5, C5, rfl, f5, P5⟩
    have F5 : Fr h c H5 C5 [p] := by
     refine Fr.trans ?_ f5 (by simp)
     refine Fr.more (c1 := C4) ?_ (by omega)
     repeat (first | exact F4 | refine Fr.upd (c1 := C4) ?_ _ (by first | (right; omega) | (left; simp; done)) (Nat.le_refl _))
    have L5 := F5.le
    have M5 := f5.le
    have Z5_1 : H5 (c) = some (.cells zeroN) := (f5.at (by omega) (by simp; omega)).trans (by first | (simp only [u0_1, u1_0, upd_same, Z4_1]; done) | rfl | (simp only [u0_1, u1_0, upd_same, Z4_1]; rfl))
    simp -dsimp -implicitDefEqProofs only [go_sem, Nat.reduceAdd, Nat.reduceEqDiff, reduceIte, reduceCtorEq, Nat.reduceLeDiff, Nat.reduceLT, Nat.reduceSub, Int.reduceEq, Int.reduceLT, preH, OpK_alloc, ldCells, fillV, zeroN, zeroT, pcell, u0_1, u1_0, P5, Z5_1]
    have hYe : Y = fail T 14 S := by rw [hY]; simp [hb3]
    rw [← hYe] at P5
    refine DoesK_of (hc _ _ _ (by first | exact P5 | (simp only [u0_1, u1_0, upd_same, P5]; done) | (simp only [u0_1, u1_0, upd_same, P5]; rfl) | rfl) (by omega)) ?_
    rintro v st ⟨N6, H6, C6, rfl, f6, P6⟩
    have F6 : Fr h c H6 C6 [p] := by
     refine Fr.trans ?_ f6 (by simp)
     refine Fr.more (c1 := C5) ?_ (by omega)
     repeat (first | exact F5 | refine Fr.upd (c1 := C5) ?_ _ (by first | (right; omega) | (left; simp; done)) (Nat.le_refl _))
    have L6 := F6.le
    have M6 := f6.le
    have Z6_1 : H6 (c) = some (.cells zeroN) := (f6.at (by omega) (by simp; omega)).trans (by first | (simp only [u0_1, u1_0, upd_same, Z5_1]; done) | rfl | (simp only [u0_1, u1_0, upd_same, Z5_1]; rfl))
    obtain ⟨o6a, o6b, es6, rfl, E6⟩ := N6.inv
    simp -dsimp -implicitDefEqProofs only [go_sem, Nat.reduceAdd, Nat.reduceEqDiff, reduceIte, reduceCtorEq, Nat.reduceLeDiff, Nat.reduceLT, Nat.reduceSub, Int.reduceEq, Int.reduceLT, preH, OpK_alloc, ldCells, fillV, zeroN, zeroT, pcell, u0_1, u1_0, P6, Z6_1]
    exact ⟨_, rfl, N6, _, _, rfl, (by
      refine Fr.more (c1 := C6) ?_ (by omega)
      repeat (first | exact F6 | refine Fr.upd (c1 := C6) ?_ _ (by first | (right; omega) | (left; simp; done)) (Nat.le_refl _))), (by first | exact P6 | (simp only [u0_1, u1_0, upd_same, P6]; done) | (simp only [u0_1, u1_0, upd_same, P6]; rfl) | rfl)⟩
   ·rw [hb3] at hY
    simp -dsimp -implicitDefEqProofs only [go_sem, Nat.reduceAdd, Nat.reduceEqDiff, reduceIte, reduceCtorEq, Nat.reduceLeDiff, Nat.reduceLT, Nat.reduceSub, Int.reduceEq, Int.reduceLT, preH, OpK_alloc, ldCells, fillV, zeroN, zeroT, pcell, u0_1, u1_0, P4, Z4_1, hb3]
    have hYe : Y = S := by rw [hY]; simp [hb3]
    rw [← hYe] at P4
    refine DoesK_of (hc _ _ _ (by first | exact P4 | (simp only [u0_1, u1_0, upd_same, P4]; done) | (simp only [u0_1, u1_0, upd_same, P4]; rfl) | rfl) (by omega)) ?_
    rintro v st ⟨N5, H5, C5, rfl, f5, P5⟩
    have F5 : Fr h c H5 C5 [p] := by
     refine Fr.trans ?_ f5 (by simp)
     refine Fr.more (c1 := C4) ?_ (by omega)
     repeat (first | exact F4 | refine Fr.upd (c1 := C4) ?_ _ (by first | (right; omega) | (left; simp; done)) (Nat.le_refl _))
    have L5 := F5.le
    have M5 := f5.le
    have Z5_1 : H5 (c) = some (.cells zeroN) := (f5.at (by omega) (by simp; omega)).trans (by first | (simp only [u0_1, u1_0, upd_same, Z4_1]; done) | rfl | (simp only [u0_1, u1_0, upd_same, Z4_1]; rfl))
    obtain ⟨o5a, o5b, es5, rfl, E5⟩ := N5.inv
    simp -dsimp -implicitDefEqProofs only [go_sem, Nat.reduceAdd, Nat.reduceEqDiff, reduceIte, reduceCtorEq, Nat.reduceLeDiff, Nat.reduceLT, Nat.reduceSub, Int.reduceEq, Int.reduceLT, preH, OpK_alloc, ldCells, fillV, zeroN, zeroT, pcell, u0_1, u1_0, P5, Z5_1]
    exact ⟨_, rfl, N5, _, _, rfl, (by
      refine Fr.more (c1 := C5) ?_ (by omega)
      repeat (first | exact F5 | refine Fr.upd (c1 := C5) ?_ _ (by first | (right; omega) | (left; simp; done)) (Nat.le_refl _))), (by first | exact P5 | (simp only [u0_1, u1_0, upd_same, P5]; done) | (simp only [u0_1, u1_0, upd_same, P5]; rfl) | rfl)⟩
end
section
variable {T : List Tok} {p : Nat} {o : Own}
theorem Stable_nil (l : List Log) : Stable [] l = True := by simp [Stable]
theorem Stable_cons (i j : Nat) (ps : List (Nat × Nat)) (l : List Log) : Stable ((i, j) :: ps) l = ((∀ r ∈ l, r.i = i → ∀ k, r.key = some k → ∀ t ∈ l, t.i = j → t.h k = t.h' k) ∧ Stable ps l) := by
 simp only [Stable, List.forall_mem_cons]
set_option maxHeartbeats 2000000 in
theorem branch_reads {f : Nat} (hg : Reads T p o 35 (run T f .exp)) : Reads T p o 67 (run T (f + 1) .branch) := by
 intro s n s' hi hr
 rw [run_branch] at hr
 dsimp only at hr
 split at hr
 case h_2 => cases hr
 rename_i n1 s1 h1
 split at hr
 case h_2 => cases hr
 rename_i n2 s2 h2
 split at hr
 case h_2 => cases hr
 rename_i n3 s3 h3
 injection hr with hr; injection hr with r1 r2
 subst r1; subst r2
 have i0 := hi.take
 obtain ⟨⟨d1, I1⟩, c1⟩ := in_reads hg i0 h1
 have i1 := I1.must wThen
 obtain ⟨⟨d2, I2⟩, c2⟩ := in_reads hg i1 h2
 have i2 := I2.must wElse
 obtain ⟨⟨d3, I3⟩, c3⟩ := in_reads hg i2 h3
 refine ⟨⟨by rw [d3, must_deep, d2, must_deep, d1, take_deep], I3⟩, fun h c d hp hpc => ?_⟩
 refine call_aw b67 rfl rfl rfl ?_; delta b67
 have u1_0 : ∀ h x, upd h (c) x (p) = h (p) := fun h x => upd_ne h x (by omega)
 have u0_1 : ∀ h x, upd h (p) x (c) = h (c) := fun h x => upd_ne h x (by omega)
 simp -dsimp -implicitDefEqProofs only [go_sem, Nat.reduceAdd, Nat.reduceEqDiff, reduceIte, reduceCtorEq, Nat.reduceLeDiff, Nat.reduceLT, Nat.reduceSub, Int.reduceEq, Int.reduceLT, preH, OpK_alloc, ldCells, fillV, zeroN, zeroT, pcell, u0_1, u1_0, hp]
 refine DoesK_of (take_call (o := o) (p := p) hi (by first | exact hp | (simp only [u0_1, u1_0, upd_same, hp]; done) | (simp only [u0_1, u1_0, upd_same, hp]; rfl) | rfl) (by omega)) ?_
 rintro v st ⟨rfl, H1, C1, rfl, f1, P1⟩
 have F1 : Fr h c H1 C1 [p] := by
  refine Fr.trans ?_ f1 (by simp)
  refine Fr.more (c1 := c) ?_ (by omega)
  repeat (first | exact (Fr.refl h c [p]) | refine Fr.upd (c1 := c) ?_ _ (by first | (right; omega) | (left; simp; done)) (Nat.le_refl _))
 have L1 := F1.le
 have M1 := f1.le
 have Z1_1 : H1 (c) = some (.cells zeroN) := (f1.at (by omega) (by simp; omega)).trans (by first | (simp only [u0_1, u1_0, upd_same]; done) | rfl | (simp only [u0_1, u1_0, upd_same]; rfl))
 simp -dsimp -implicitDefEqProofs only [go_sem, Nat.reduceAdd, Nat.reduceEqDiff, reduceIte, reduceCtorEq, Nat.reduceLeDiff, Nat.reduceLT, Nat.reduceSub, Int.reduceEq, Int.reduceLT, preH, OpK_alloc, ldCells, fillV, zeroN, zeroT, pcell, u0_1, u1_0, P1, Z1_1, fld_a]
 have u2_0 : ∀ h x, upd h (C1) x (p) = h (p) := fun h x => upd_ne h x (by omega)
 have u0_2 : ∀ h x, upd h (p) x (C1) = h (C1) := fun h x => upd_ne h x (by omega)
 have u2_1 : ∀ h x, upd h (C1) x (c) = h (c) := fun h x => upd_ne h x (by omega)
 have u1_2 : ∀ h x, upd h (c) x (C1) = h (C1) := fun h x => upd_ne h x (by omega)
 have U0 : _ ∧ _ ∧ _ ∧ _ ∧ _ ∧ _ := ⟨u0_1, u0_2, u1_0, u1_2, u2_0, u2_1⟩
 refine DoesK_of (c1 _ _ _ (by first | exact P1 | (simp only [U0, upd_same, P1]; done) | (simp only [U0, upd_same, P1]; rfl) | rfl) (by omega)) ?_
 rintro v st ⟨N2, H2, C2, rfl, f2, P2⟩
 have F2 : Fr h c H2 C2 [p] := by
  refine Fr.trans ?_ f2 (by simp)
  refine Fr.more (c1 := C1) ?_ (by omega)
  repeat (first | exact F1 | refine Fr.upd (c1 := C1) ?_ _ (by first | (right; omega) | (left; simp; done)) (Nat.le_refl _))
 have L2 := F2.le
 have M2 := f2.le
 have Z2_1 : H2 (c) = some (.cells zeroN) := (f2.at (by omega) (by simp; omega)).trans (by first | (simp only [U0, upd_same, Z1_1]; done) | rfl | (simp only [U0, upd_same, Z1_1]; rfl))
 have Z2_2 : H2 (C1) = some (.cells zeroN) := (f2.at (by omega) (by simp; omega)).trans (by first | (simp only [U0, upd_same]; done) | rfl | (simp only [U0, upd_same]; rfl))
 obtain ⟨o2a, o2b, es2, rfl, E2⟩ := N2.inv
 simp -dsimp -implicitDefEqProofs only [go_sem, Nat.reduceAdd, Nat.reduceEqDiff, reduceIte, reduceCtorEq, Nat.reduceLeDiff, Nat.reduceLT, Nat.reduceSub, Int.reduceEq, Int.reduceLT, preH, OpK_alloc, ldCells, fillV, zeroN, zeroT, pcell, U0, P2, Z2_1, Z2_2]
 refine DoesK_of (must_call (o := o) (p := p) I1 (by first | exact P2 | (simp only [U0, upd_same, P2]; done) | (simp only [U0, upd_same, P2]; rfl) | rfl) (by omega) wThen) ?_
 rintro v st ⟨rfl, H3, C3, rfl, f3, P3⟩
 have F3 : Fr h c H3 C3 [p] := by
  refine Fr.trans ?_ f3 (by simp)
  refine Fr.more (c1 := C2) ?_ (by omega)
  repeat (first | exact F2 | refine Fr.upd (c1 := C2) ?_ _ (by first | (right; omega) | (left; simp; done)) (Nat.le_refl _))
 have L3 := F3.le
 have M3 := f3.le
 have Z3_1 : H3 (c) = some (.cells zeroN) := (f3.at (by omega) (by simp; omega)).trans (by first | (simp only [U0, upd_same, Z2_1]; done) | rfl | (simp only [U0, upd_same, Z2_1]; rfl))
 have Z3_2 : H3 (C1) = some (.cells [.int .i64 n1.k, .str n1.t, .int .i64 n1.n, .int .i64 n1.a, .slice o2a (n1.ns.map AV.str), .slice o2b es2]) := (f3.at (by omega) (by simp; omega)).trans (by first | (simp only [U0, upd_same]; done) | rfl | (simp only [U0, upd_same]; rfl))
 simp -dsimp -implicitDefEqProofs only [go_sem, Nat.reduceAdd, Nat.reduceEqDiff, reduceIte, reduceCtorEq, Nat.reduceLeDiff, Nat.reduceLT, Nat.reduceSub, Int.reduceEq, Int.reduceLT, preH, OpK_alloc, ldCells, fillV, zeroN, zeroT, pcell, U0, P3, Z3_1, Z3_2]
 have u3_0 : ∀ h x, upd h (C3) x (p) = h (p) := fun h x => upd_ne h x (by omega)
 have u0_3 : ∀ h x, upd h (p) x (C3) = h (C3) := fun h x => upd_ne h x (by omega)
 have u3_1 : ∀ h x, upd h (C3) x (c) = h (c) := fun h x => upd_ne h x (by omega)
 have u1_3 : ∀ h x, upd h (c) x (C3) = h (C3) := fun h x => upd_ne h x (by omega)
 have u3_2 : ∀ h x, upd h (C3) x (C1) = h (C1) := fun h x => upd_ne h x (by omega)
 have u2_3 : ∀ h x, upd h (C1) x (C3) = h (C3) := fun h x => upd_ne h x (by omega)
 have U1 : _ ∧ _ ∧ _ ∧ _ ∧ _ ∧ _ ∧ _ ∧ _ ∧ _ ∧ _ ∧ _ ∧ _ := ⟨u0_1, u0_2, u0_3, u1_0, u1_2, u1_3, u2_0, u2_1, u2_3, u3_0, u3_1, u3_2⟩
 refine DoesK_of (c2 _ _ _ (by first | exact P3 | (simp only [U1, upd_same, P3]; done) | (simp only [U1, upd_same, P3]; rfl) | rfl) (by omega)) ?_
 rintro v st ⟨N4, H4, C4, rfl, f4, P4⟩
 have F4 : Fr h c H4 C4 [p] := by
  refine Fr.trans ?_ f4 (by simp)
  refine Fr.more (c1 := C3) ?_ (by omega)
  repeat (first | exact F3 | refine Fr.upd (c1 := C3) ?_ _ (by first | (right; omega) | (left; simp; done)) (Nat.le_refl _))
 have L4 := F4.le
 have M4 := f4.le
 have Z4_1 : H4 (c) = some (.cells zeroN) := (f4.at (by omega) (by simp; omega)).trans (by first | (simp only [U1, upd_same, Z3_1]; done) | rfl | (simp only [U1, upd_same, Z3_1]; rfl))
 have Z4_2 : H4 (C1) = some (.cells [.int .i64 n1.k, .str n1.t, .int .i64 n1.n, .int .i64 n1.a, .slice o2a (n1.ns.map AV.str), .slice o2b es2]) := (f4.at (by omega) (by simp; omega)).trans (by first | (simp only [U1, upd_same, Z3_2]; done) | rfl | (simp only [U1, upd_same, Z3_2]; rfl))
 have Z4_3 : H4 (C3) = some (.cells zeroN) := (f4.at (by omega) (by simp; omega)).trans (by first | (simp only [U1, upd_same]; done) | rfl | (simp only [U1, upd_same]; rfl))
 obtain ⟨o4a, o4b, es4, rfl, E4⟩ := N4.inv
 simp -dsimp -implicitDefEqProofs only [go_sem, Nat.reduceAdd, Nat.reduceEqDiff, reduceIte, reduceCtorEq, Nat.reduceLeDiff, Nat.reduceLT, Nat.reduceSub, Int.reduceEq, Int.reduceLT, preH, OpK_alloc, ldCells, fillV, zeroN, zeroT, pcell, U1, P4, Z4_1, Z4_2, Z4_3]
 refine DoesK_of (must_call (o := o) (p := p) I2 (by first | exact P4 | (simp only [U1, upd_same, P4]; done) | (simp only [U1, upd_same, P4]; rfl) | rfl) (by omega) wElse) ?_
 rintro v st ⟨rfl, H5, C5, rfl, f5, P5⟩
 have F5 : Fr h c H5 C5 [p] := by
  refine Fr.trans ?_ f5 (by simp)
  refine Fr.more (c1 := C4) ?_ (by omega)
  repeat (first | exact F4 | refine Fr.upd (c1 := C4) ?_ _ (by first | (right; omega) | (left; simp; done)) (Nat.le_refl _))
 have L5 := F5.le
 have M5 := f5.le
 have Z5_1 : H5 (c) = some (.cells zeroN) := (f5.at (by omega) (by simp; omega)).trans (by first | (simp only [U1, upd_same, Z4_1]; done) | rfl | (simp only [U1, upd_same, Z4_1]; rfl))
 have Z5_2 : H5 (C1) = some (.cells [.int .i64 n1.k, .str n1.t, .int .i64 n1.n, .int .i64 n1.a, .slice o2a (n1.ns.map AV.str), .slice o2b es2]) := (f5.at (by omega) (by simp; omega)).trans (by first | (simp only [U1, upd_same, Z4_2]; done) | rfl | (simp only [U1, upd_same, Z4_2]; rfl))
 have Z5_3 : H5 (C3) = some (.cells [.int .i64 n2.k, .str n2.t, .int .i64 n2.n, .int .i64 n2.a, .slice o4a (n2.ns.map AV.str), .slice o4b es4]) := (f5.at (by omega) (by simp; omega)).trans (by first | (simp only [U1, upd_same]; done) | rfl | (simp only [U1, upd_same]; rfl))
 simp -dsimp -implicitDefEqProofs only [go_sem, Nat.reduceAdd, Nat.reduceEqDiff, reduceIte, reduceCtorEq, Nat.reduceLeDiff, Nat.reduceLT, Nat.reduceSub, Int.reduceEq, Int.reduceLT, preH, OpK_alloc, ldCells, fillV, zeroN, zeroT, pcell, U1, P5, Z5_1, Z5_2, Z5_3, Aw_region1, OpsK_some1, OpsK_none1, maskOf, List.flatMap_cons, List.flatMap_nil]
 refine DoesK_of (c3 _ _ _ (by first | exact P5 | (simp only [U1, upd_same, P5]; done) | (simp only [U1, upd_same, P5]; rfl) | rfl) (by omega)) ?_
 rintro v st ⟨N6, H6, C6, rfl, f6, P6⟩
 have F6 : Fr h c H6 C6 [p] := by
  refine Fr.trans ?_ f6 (by simp)
  refine Fr.more (c1 := C5) ?_ (by omega)
  repeat (first | exact F5 | refine Fr.upd (c1 := C5) ?_ _ (by first | (right; omega) | (left; simp; done)) (Nat.le_refl _))
 have L6 := F6.le
 have M6 := f6.le
 have Z6_1 : H6 (c) = some (.cells zeroN) := (f6.at (by omega) (by simp; omega)).trans (by first | (simp only [U1, upd_same, Z5_1]; done) | rfl | (simp only [U1, upd_same, Z5_1]; rfl))
 have Z6_2 : H6 (C1) = some (.cells [.int .i64 n1.k, .str n1.t, .int .i64 n1.n, .int .i64 n1.a, .slice o2a (n1.ns.map AV.str), .slice o2b es2]) := (f6.at (by omega) (by simp; omega)).trans (by first | (simp only [U1, upd_same, Z5_2]; done) | rfl | (simp only [U1, upd_same, Z5_2]; rfl))
 have Z6_3 : H6 (C3) = some (.cells [.int .i64 n2.k, .str n2.t, .int .i64 n2.n, .int .i64 n2.a, .slice o4a (n2.ns.map AV.str), .slice o4b es4]) := (f6.at (by omega) (by simp; omega)).trans (by first | (simp only [U1, upd_same, Z5_3]; done) | rfl | (simp only [U1, upd_same, Z5_3]; rfl))
 obtain ⟨o6a, o6b, es6, rfl, E6⟩ := N6.inv
 simp -dsimp -implicitDefEqProofs only [go_sem, Nat.reduceAdd, Nat.reduceEqDiff, reduceIte, reduceCtorEq, Nat.reduceLeDiff, Nat.reduceLT, Nat.reduceSub, Int.reduceEq, Int.reduceLT, preH, OpK_alloc, ldCells, fillV, zeroN, zeroT, pcell, U1, P6, Z6_1, Z6_2, Z6_3, Aw_region1, OpsK_some1, OpsK_none1, partsV]
 refine DoesK_of (node_call 10 _ _ .full _ _ _ _) ?_
 rintro v st ⟨rfl, H7, C7, rfl, f7⟩
 have F7 : Fr h c H7 C7 [p] := by
  refine Fr.trans ?_ f7 (by simp)
  refine Fr.more (c1 := C6) ?_ (by omega)
  repeat (first | exact F6 | refine Fr.upd (c1 := C6) ?_ _ (by first | (right; omega) | (left; simp; done)) (Nat.le_refl _))
 have L7 := F7.le
 have M7 := f7.le
 have P7 : H7 p = _ := (f7.at (by omega) (by simp)).trans (by first | exact P6 | (simp only [U1, upd_same, P6]; rfl))
 have Z7_1 : H7 (c) = some (.cells zeroN) := (f7.at (by omega) (by simp)).trans (by first | (simp only [U1, upd_same, Z6_1]; done) | rfl | (simp only [U1, upd_same, Z6_1]; rfl))
 have Z7_2 : H7 (C1) = some (.cells [.int .i64 n1.k, .str n1.t, .int .i64 n1.n, .int .i64 n1.a, .slice o2a (n1.ns.map AV.str), .slice o2b es2]) := (f7.at (by omega) (by simp)).trans (by first | (simp only [U1, upd_same, Z6_2]; done) | rfl | (simp only [U1, upd_same, Z6_2]; rfl))
 have Z7_3 : H7 (C3) = some (.cells [.int .i64 n2.k, .str n2.t, .int .i64 n2.n, .int .i64 n2.a, .slice o4a (n2.ns.map AV.str), .slice o4b es4]) := (f7.at (by omega) (by simp)).trans (by first | (simp only [U1, upd_same, Z6_3]; done) | rfl | (simp only [U1, upd_same, Z6_3]; rfl))
 simp -dsimp -implicitDefEqProofs only [go_sem, Nat.reduceAdd, Nat.reduceEqDiff, reduceIte, reduceCtorEq, Nat.reduceLeDiff, Nat.reduceLT, Nat.reduceSub, Int.reduceEq, Int.reduceLT, preH, OpK_alloc, ldCells, fillV, zeroN, zeroT, pcell, U1, P7, Z7_1, Z7_2, Z7_3, Aw_region1, OpsK_some1, OpsK_none1, Z5_2, Z5_3, Z6_2, Z6_3]
 simp only [List.contains_cons, List.contains_nil, Nat.reduceBEq, Bool.or_false, Bool.or_true, Bool.false_or, Bool.true_or, Bool.false_eq_true, if_true, if_false, opKey, ldKey, ev_tmp, get_cons, Nat.reduceEqDiff, reduceIte, Stable_cons, Stable_nil, List.forall_mem_cons, and_true, true_and]
 refine ⟨by simp [Z5_2, Z5_3, Z6_2, Z6_3], ?_⟩
 exact ⟨.mk rfl ((NRs.one N2).app ((NRs.one N4).app (NRs.one N6))).2, _, _, rfl, (by
   refine Fr.more (c1 := C7) ?_ (by omega)
   repeat (first | exact F7 | refine Fr.upd (c1 := C7) ?_ _ (by first | (right; omega) | (left; simp; done)) (Nat.le_refl _))), (by first | exact P7 | (simp only [U1, upd_same, P7]; done) | (simp only [U1, upd_same, P7]; rfl) | rfl)⟩
set_option maxHeartbeats 4000000 in
theorem let_reads {f : Nat} (hg : Reads T p o 35 (run T f .exp)) : Reads T p o 65 (run T (f + 1) .letE) := by
 intro s n s' hi hr
 rw [run_letE] at hr
 dsimp only at hr
 split at hr
 case h_2 => cases hr
 rename_i name rc n1 s1 h1
 split at hr
 case h_2 => cases hr
 rename_i n2 s2 h2
 injection hr with hr; injection hr with r1 r2
 subst r1; subst r2
 have i0 := hi.take
 obtain ⟨⟨d1, I1⟩, c1⟩ := value_reads hg i0 h1
 have i1 := I1.must wIn
 obtain ⟨⟨d2, I2⟩, c2⟩ := in_reads hg i1 h2
 refine ⟨⟨by rw [d2, must_deep, d1, take_deep], I2⟩, fun h c d hp hpc => ?_⟩
 refine call_aw b65 rfl rfl rfl ?_; delta b65
 have u1_0 : ∀ h x, upd h (c) x (p) = h (p) := fun h x => upd_ne h x (by omega)
 have u0_1 : ∀ h x, upd h (p) x (c) = h (c) := fun h x => upd_ne h x (by omega)
 simp -dsimp -implicitDefEqProofs only [go_sem, Nat.reduceAdd, Nat.reduceEqDiff, reduceIte, reduceCtorEq, Nat.reduceLeDiff, Nat.reduceLT, Nat.reduceSub, Int.reduceEq, Int.reduceLT, preH, OpK_alloc, ldCells, fillV, zeroN, zeroT, pcell, u0_1, u1_0, hp]
 refine DoesK_of (take_call (o := o) (p := p) hi (by first | exact hp | (simp only [u0_1, u1_0, upd_same, hp]; done) | (simp only [u0_1, u1_0, upd_same, hp]; rfl) | rfl) (by omega)) ?_
 rintro v st ⟨rfl, H1, C1, rfl, f1, P1⟩
 have F1 : Fr h c H1 C1 [p] := by
  refine Fr.trans ?_ f1 (by simp)
  refine Fr.more (c1 := c) ?_ (by omega)
  repeat (first | exact (Fr.refl h c [p]) | refine Fr.upd (c1 := c) ?_ _ (by first | (right; omega) | (left; simp; done)) (Nat.le_refl _))
 have L1 := F1.le
 have M1 := f1.le
 have Z1_1 : H1 (c) = some (.cells zeroN) := (f1.at (by omega) (by simp; omega)).trans (by first | (simp only [u0_1, u1_0, upd_same]; done) | rfl | (simp only [u0_1, u1_0, upd_same]; rfl))
 simp -dsimp -implicitDefEqProofs only [go_sem, Nat.reduceAdd, Nat.reduceEqDiff, reduceIte, reduceCtorEq, Nat.reduceLeDiff, Nat.reduceLT, Nat.reduceSub, Int.reduceEq, Int.reduceLT, preH, OpK_alloc, ldCells, fillV, zeroN, zeroT, pcell, u0_1, u1_0, P1, Z1_1, fld_a]
 have u2_0 : ∀ h x, upd h (C1) x (p) = h (p) := fun h x => upd_ne h x (by omega)
 have u0_2 : ∀ h x, upd h (p) x (C1) = h (C1) := fun h x => upd_ne h x (by omega)
 have u2_1 : ∀ h x, upd h (C1) x (c) = h (c) := fun h x => upd_ne h x (by omega)
 have u1_2 : ∀ h x, upd h (c) x (C1) = h (C1) := fun h x => upd_ne h x (by omega)
 have U2 : _ ∧ _ ∧ _ ∧ _ ∧ _ ∧ _ := ⟨u0_1, u0_2, u1_0, u1_2, u2_0, u2_1⟩
 refine DoesK_of (c1 _ _ _ (by first | exact P1 | (simp only [U2, upd_same, P1]; done) | (simp only [U2, upd_same, P1]; rfl) | rfl) (by omega)) ?_
 rintro v st ⟨v2, rfl, N2, H2, C2, rfl, f2, P2⟩
 have F2 : Fr h c H2 C2 [p] := by
  refine Fr.trans ?_ f2 (by simp)
  refine Fr.more (c1 := C1) ?_ (by omega)
  repeat (first | exact F1 | refine Fr.upd (c1 := C1) ?_ _ (by first | (right; omega) | (left; simp; done)) (Nat.le_refl _))
 have L2 := F2.le
 have M2 := f2.le
 have Z2_1 : H2 (c) = some (.cells zeroN) := (f2.at (by omega) (by simp; omega)).trans (by first | (simp only [U2, upd_same, Z1_1]; done) | rfl | (simp only [U2, upd_same, Z1_1]; rfl))
 have Z2_2 : H2 (C1) = some (.cells zeroN) := (f2.at (by omega) (by simp; omega)).trans (by first | (simp only [U2, upd_same]; done) | rfl | (simp only [U2, upd_same]; rfl))
 obtain ⟨o2a, o2b, es2, rfl, E2⟩ := N2.inv
 simp -dsimp -implicitDefEqProofs only [go_sem, Nat.reduceAdd, Nat.reduceEqDiff, reduceIte, reduceCtorEq, Nat.reduceLeDiff, Nat.reduceLT, Nat.reduceSub, Int.reduceEq, Int.reduceLT, preH, OpK_alloc, ldCells, fillV, zeroN, zeroT, pcell, U2, P2, Z2_1, Z2_2]
 refine DoesK_of (must_call (o := o) (p := p) I1 (by first | exact P2 | (simp only [U2, upd_same, P2]; done) | (simp only [U2, upd_same, P2]; rfl) | rfl) (by omega) wIn) ?_
 rintro v st ⟨rfl, H3, C3, rfl, f3, P3⟩
 have F3 : Fr h c H3 C3 [p] := by
  refine Fr.trans ?_ f3 (by simp)
  refine Fr.more (c1 := C2) ?_ (by omega)
  repeat (first | exact F2 | refine Fr.upd (c1 := C2) ?_ _ (by first | (right; omega) | (left; simp; done)) (Nat.le_refl _))
 have L3 := F3.le
 have M3 := f3.le
 have Z3_1 : H3 (c) = some (.cells zeroN) := (f3.at (by omega) (by simp; omega)).trans (by first | (simp only [U2, upd_same, Z2_1]; done) | rfl | (simp only [U2, upd_same, Z2_1]; rfl))
 have Z3_2 : H3 (C1) = some (.cells [.int .i64 n1.k, .str n1.t, .int .i64 n1.n, .int .i64 n1.a, .slice o2a (n1.ns.map AV.str), .slice o2b es2]) := (f3.at (by omega) (by simp; omega)).trans (by first | (simp only [U2, upd_same]; done) | rfl | (simp only [U2, upd_same]; rfl))
 have u3_0 : ∀ h x, upd h (C3) x (p) = h (p) := fun h x => upd_ne h x (by omega)
 have u0_3 : ∀ h x, upd h (p) x (C3) = h (C3) := fun h x => upd_ne h x (by omega)
 have u3_1 : ∀ h x, upd h (C3) x (c) = h (c) := fun h x => upd_ne h x (by omega)
 have u1_3 : ∀ h x, upd h (c) x (C3) = h (C3) := fun h x => upd_ne h x (by omega)
 have u3_2 : ∀ h x, upd h (C3) x (C1) = h (C1) := fun h x => upd_ne h x (by omega)
 have u2_3 : ∀ h x, upd h (C1) x (C3) = h (C3) := fun h x => upd_ne h x (by omega)
 have U3 : _ ∧ _ ∧ _ ∧ _ ∧ _ ∧ _ ∧ _ ∧ _ ∧ _ ∧ _ ∧ _ ∧ _ := ⟨u0_1, u0_2, u0_3, u1_0, u1_2, u1_3, u2_0, u2_1, u2_3, u3_0, u3_1, u3_2⟩
 simp -dsimp -implicitDefEqProofs only [go_sem, Nat.reduceAdd, Nat.reduceEqDiff, reduceIte, reduceCtorEq, Nat.reduceLeDiff, Nat.reduceLT, Nat.reduceSub, Int.reduceEq, Int.reduceLT, preH, OpK_alloc, ldCells, fillV, zeroN, zeroT, pcell, U3, P3, Z3_1, Z3_2, Aw_region1, OpsK_some1, OpsK_none1, maskOf, List.flatMap_cons, List.flatMap_nil]
 refine DoesK_of (c2 _ _ _ (by first | exact P3 | (simp only [U3, upd_same, P3]; done) | (simp only [U3, upd_same, P3]; rfl) | rfl) (by omega)) ?_
 rintro v st ⟨N4, H4, C4, rfl, f4, P4⟩
 have F4 : Fr h c H4 C4 [p] := by
  refine Fr.trans ?_ f4 (by simp)
  refine Fr.more (c1 := C3) ?_ (by omega)
  repeat (first | exact F3 | refine Fr.upd (c1 := C3) ?_ _ (by first | (right; omega) | (left; simp; done)) (Nat.le_refl _))
 have L4 := F4.le
 have M4 := f4.le
 have Z4_1 : H4 (c) = some (.cells zeroN) := (f4.at (by omega) (by simp; omega)).trans (by first | (simp only [U3, upd_same, Z3_1]; done) | rfl | (simp only [U3, upd_same, Z3_1]; rfl))
 have Z4_2 : H4 (C1) = some (.cells [.int .i64 n1.k, .str n1.t, .int .i64 n1.n, .int .i64 n1.a, .slice o2a (n1.ns.map AV.str), .slice o2b es2]) := (f4.at (by omega) (by simp; omega)).trans (by first | (simp only [U3, upd_same, Z3_2]; done) | rfl | (simp only [U3, upd_same, Z3_2]; rfl))
 have Z4_3 : H4 (C3) = some (.cells zeroN) := (f4.at (by omega) (by simp; omega)).trans (by first | (simp only [U3, upd_same]; done) | rfl | (simp only [U3, upd_same]; rfl))
 obtain ⟨o4a, o4b, es4, rfl, E4⟩ := N4.inv
 simp -dsimp -implicitDefEqProofs only [go_sem, Nat.reduceAdd, Nat.reduceEqDiff, reduceIte, reduceCtorEq, Nat.reduceLeDiff, Nat.reduceLT, Nat.reduceSub, Int.reduceEq, Int.reduceLT, preH, OpK_alloc, ldCells, fillV, zeroN, zeroT, pcell, U3, P4, Z4_1, Z4_2, Z4_3, Aw_region1, OpsK_some1, OpsK_none1, partsV]
 refine DoesK_of (node_call 8 _ _ .full _ _ _ _) ?_
 rintro v st ⟨rfl, H5, C5, rfl, f5⟩
 have F5 : Fr h c H5 C5 [p] := by
  refine Fr.trans ?_ f5 (by simp)
  refine Fr.more (c1 := C4) ?_ (by omega)
  repeat (first | exact F4 | refine Fr.upd (c1 := C4) ?_ _ (by first | (right; omega) | (left; simp; done)) (Nat.le_refl _))
 have L5 := F5.le
 have M5 := f5.le
 have P5 : H5 p = _ := (f5.at (by omega) (by simp)).trans (by first | exact P4 | (simp only [U3, upd_same, P4]; rfl))
 have Z5_1 : H5 (c) = some (.cells zeroN) := (f5.at (by omega) (by simp)).trans (by first | (simp only [U3, upd_same, Z4_1]; done) | rfl | (simp only [U3, upd_same, Z4_1]; rfl))
 have Z5_2 : H5 (C1) = some (.cells [.int .i64 n1.k, .str n1.t, .int .i64 n1.n, .int .i64 n1.a, .slice o2a (n1.ns.map AV.str), .slice o2b es2]) := (f5.at (by omega) (by simp)).trans (by first | (simp only [U3, upd_same, Z4_2]; done) | rfl | (simp only [U3, upd_same, Z4_2]; rfl))
 have Z5_3 : H5 (C3) = some (.cells zeroN) := (f5.at (by omega) (by simp)).trans (by first | (simp only [U3, upd_same, Z4_3]; done) | rfl | (simp only [U3, upd_same, Z4_3]; rfl))
 simp -dsimp -implicitDefEqProofs only [go_sem, Nat.reduceAdd, Nat.reduceEqDiff, reduceIte, reduceCtorEq, Nat.reduceLeDiff, Nat.reduceLT, Nat.reduceSub, Int.reduceEq, Int.reduceLT, preH, OpK_alloc, ldCells, fillV, zeroN, zeroT, pcell, U3, P5, Z5_1, Z5_2, Z5_3, Aw_region1, OpsK_some1, OpsK_none1]
 simp only [List.contains_cons, List.contains_nil, Nat.reduceBEq, Bool.or_false, Bool.or_true, Bool.false_or, Bool.true_or, Bool.false_eq_true, if_true, if_false, opKey, ldKey, ev_tmp, get_cons, Nat.reduceEqDiff, reduceIte, Stable_cons, Stable_nil, List.forall_mem_cons, and_true, true_and]
 refine ⟨by simp [Z5_3, Z4_3, Z5_2, Z4_2, Z3_2, upd_same, zeroN, U3], ?_⟩
 refine CondV_split (fun hq => ?_) fun hq => ?_
 ·rw [if_pos hq]
  simp -dsimp -implicitDefEqProofs only [go_sem, Nat.reduceAdd, Nat.reduceEqDiff, reduceIte, reduceCtorEq, Nat.reduceLeDiff, Nat.reduceLT, Nat.reduceSub, Int.reduceEq, Int.reduceLT, preH, OpK_alloc, ldCells, fillV, zeroN, zeroT, pcell, U3, P5, Z5_1, Z5_2, Z5_3]
  exact ⟨.mk rfl ((NRs.one N2).app (NRs.one N4)).2, _, _, rfl, (by
    refine Fr.more (c1 := C5) ?_ (by omega)
    repeat (first | exact F5 | refine Fr.upd (c1 := C5) ?_ _ (by first | (right; omega) | (left; simp; done)) (Nat.le_refl _))), (by first | exact P5 | (simp only [U3, upd_same, P5]; done) | (simp only [U3, upd_same, P5]; rfl) | rfl)⟩
 ·rw [if_neg (by simp [hq])]
  simp -dsimp -implicitDefEqProofs only [go_sem, Nat.reduceAdd, Nat.reduceEqDiff, reduceIte, reduceCtorEq, Nat.reduceLeDiff, Nat.reduceLT, Nat.reduceSub, Int.reduceEq, Int.reduceLT, preH, OpK_alloc, ldCells, fillV, zeroN, zeroT, pcell, U3, P5, Z5_1, Z5_2, Z5_3]
  exact ⟨.mk rfl ((NRs.one N2).app (NRs.one N4)).2, _, _, rfl, (by
    refine Fr.more (c1 := C5) ?_ (by omega)
    repeat (first | exact F5 | refine Fr.upd (c1 := C5) ?_ _ (by first | (right; omega) | (left; simp; done)) (Nat.le_refl _))), (by first | exact P5 | (simp only [U3, upd_same, P5]; done) | (simp only [U3, upd_same, P5]; rfl) | rfl)⟩
end
section
variable {T : List Tok} {p : Nat} {o : Own}
theorem exps_call (h : Hp) (c : Nat) (d : List (Nat × List AV)) : Does X 53 [] ⟨h, c, d⟩ fun v s' => ∃ m, v = .map m ∧ ∃ h' c', s' = ⟨h', c', d⟩ ∧ Fr h c h' c' [] ∧ m < c' ∧ c ≤ m ∧ ∃ k, h' m = some (.map [(.str wLet, .func 65 [] [], 0), (.str wFun, .func 66 [] [], 1), (.str wIf, .func 67 [] [], 2)] k) := by
 refine call_aw b53 rfl rfl rfl ?_; delta b53
 have e1 : decide (([102, 117, 110] : List UInt8) = [108, 101, 116]) = false := rfl
 have e2 : decide (([105, 102] : List UInt8) = [108, 101, 116]) = false := rfl
 have e3 : decide (([105, 102] : List UInt8) = [102, 117, 110]) = false := rfl
 simp -dsimp -implicitDefEqProofs only [go_sem, Nat.reduceAdd, Nat.reduceEqDiff, reduceIte, reduceCtorEq, Nat.reduceLeDiff, Nat.reduceLT, Nat.reduceSub, Int.reduceEq, Int.reduceLT, keyed, eqKey, eqT, updM, putE, Option.isSome_some, e1, e2, e3]
 exact ⟨_, rfl, _, _, rfl, (Fr.refl h c []).upd _ (.inr (Nat.le_refl _)) (Nat.le_succ _), Nat.lt_succ_self _, Nat.le_refl _, _, upd_same _ _ _⟩
/-- What the table of exps says of a word. -/
theorem exps_look (m : Nat) (h : Hp) (k : Nat) (hm : h m = some (.map [(.str wLet, .func 65 [] [], 0), (.str wFun, .func 66 [] [], 1), (.str wIf, .func 67 [] [], 2)] k)) (w : List UInt8) :
  keyed (.one .str) (.str w) (lookM (.one .str) .nilfunc false h (.str w) (.map m)) = some (if w = wLet then .func 65 [] [] else if w = wFun then .func 66 [] [] else if w = wIf then .func 67 [] [] else .nilfunc) := by
 simp only [lookM, hm, lookObj, lookV, findE, keyed, eqKey, eqT, Option.isSome_some, okPair, if_true]
 by_cases h1 : w = wLet
 ·simp [h1]
 ·by_cases h2 : w = wFun
  ·have : wFun ≠ wLet := by decide
   simp [h2, this]
  ·by_cases h3 : w = wIf
   ·have a1 : wIf ≠ wLet := by decide
    have a2 : wIf ≠ wFun := by decide
    simp [h3, a1, a2]
   ·simp [h1, h2, h3]
set_option maxHeartbeats 4000000 in
theorem exp_reads {f : Nat} (hl : Reads T p o 65 (run T f .letE)) (hf : Reads T p o 66 (run T f .funE)) (hb : Reads T p o 67 (run T f .branch)) (hc : Reads T p o 54 (run T f .cmp)) (hg : Reads T p o 35 (run T f .exp)) : Reads T p o 35 (run T (f + 1) .exp) := by
 intro s n s' hi hr
 rw [run_exp] at hr
 have key : ∀ g rn, Reads T p o g rn → rn s = some (n, s') → (look T s).1.k = 6 → (if (look T s).1.t = wLet then AV.func 65 [] [] else if (look T s).1.t = wFun then .func 66 [] [] else if (look T s).1.t = wIf then .func 67 [] [] else .nilfunc) = .func g [] [] →
   (s'.deep = s.deep ∧ Inv T s') ∧ ∀ h c d, h p = some (pcell o T s) → p < c → Does X 35 [.ptr p 0] ⟨h, c, d⟩ (NK p o T h c d n s') := by
  intro g rn hgr hrn hk hgv
  obtain ⟨hI, hcall⟩ := hgr s n s' hi hrn
  refine ⟨hI, fun h c d hp hpc => ?_⟩
  refine call_aw b35 rfl rfl rfl ?_; delta b35
  have hk6 : decide ((look T s).1.k = 6) = true := by simpa using hk
  have u1_0 : ∀ h x, upd h (c) x (p) = h (p) := fun h x => upd_ne h x (by omega)
  have u0_1 : ∀ h x, upd h (p) x (c) = h (c) := fun h x => upd_ne h x (by omega)
  have u2_0 : ∀ h x, upd h (c + 1) x (p) = h (p) := fun h x => upd_ne h x (by omega)
  have u0_2 : ∀ h x, upd h (p) x (c + 1) = h (c + 1) := fun h x => upd_ne h x (by omega)
  have u2_1 : ∀ h x, upd h (c + 1) x (c) = h (c) := fun h x => upd_ne h x (by omega)
  have u1_2 : ∀ h x, upd h (c) x (c + 1) = h (c + 1) := fun h x => upd_ne h x (by omega)
  have U0 : _ ∧ _ ∧ _ ∧ _ ∧ _ ∧ _ := ⟨u0_1, u0_2, u1_0, u1_2, u2_0, u2_1⟩
  simp -dsimp -implicitDefEqProofs only [go_sem, Nat.reduceAdd, Nat.reduceEqDiff, reduceIte, reduceCtorEq, Nat.reduceLeDiff, Nat.reduceLT, Nat.reduceSub, Int.reduceEq, Int.reduceLT, preH, OpK_alloc, ldCells, fillV, zeroN, zeroT, pcell, U0, hp]
  refine DoesK_of (look_call (s := s) (o := o) (p := p) hi (by first | exact hp | (simp only [U0, upd_same, hp]; done) | (simp only [U0, upd_same, hp]; rfl) | rfl) (by omega)) ?_
  rintro v st ⟨rfl, H1, C1, rfl, f1, P1⟩
  have F1 : Fr h c H1 C1 [p] := by
   refine Fr.trans ?_ f1 (by simp)
   refine Fr.more (c1 := c) ?_ (by omega)
   repeat (first | exact (Fr.refl h c [p]) | refine Fr.upd (c1 := c) ?_ _ (by first | (right; omega) | (left; simp; done)) (Nat.le_refl _))
  have L1 := F1.le
  have M1 := f1.le
  have Z1_1 : H1 (c) = some (.cells zeroN) := (f1.at (by omega) (by simp; omega)).trans (by first | (simp only [U0, upd_same]; done) | rfl | (simp only [U0, upd_same]; rfl))
  have Z1_2 : H1 (c + 1) = some (.cells zeroT) := (f1.at (by omega) (by simp; omega)).trans (by first | (simp only [U0, upd_same]; done) | rfl | (simp only [U0, upd_same]; rfl))
  simp -dsimp -implicitDefEqProofs only [go_sem, Nat.reduceAdd, Nat.reduceEqDiff, reduceIte, reduceCtorEq, Nat.reduceLeDiff, Nat.reduceLT, Nat.reduceSub, Int.reduceEq, Int.reduceLT, preH, OpK_alloc, ldCells, fillV, zeroN, zeroT, pcell, U0, P1, Z1_1, Z1_2, tkV, tokC, hk6, CondV_true, Aw_region1, OpsK_some1, OpsK_none1, OpsK_guard1, maskOf, List.flatMap_cons, List.flatMap_nil, Z1_2]
  refine DoesK_of (exps_call _ _ _) ?_
  rintro v st ⟨m, rfl, H2, C2, rfl, f2, hm1, hm2, km, hm⟩
  have F2 : Fr h c H2 C2 [p] := by
   refine Fr.trans ?_ f2 (by simp)
   refine Fr.more (c1 := C1) ?_ (by omega)
   repeat (first | exact F1 | refine Fr.upd (c1 := C1) ?_ _ (by first | (right; omega) | (left; simp; done)) (Nat.le_refl _))
  have L2 := F2.le
  have M2 := f2.le
  have P2 : H2 p = _ := (f2.at (by omega) (by simp)).trans (by first | exact P1 | (simp only [U0, upd_same, P1]; rfl))
  have Z2_1 : H2 (c) = some (.cells zeroN) := (f2.at (by omega) (by simp)).trans (by first | (simp only [U0, upd_same, Z1_1]; done) | rfl | (simp only [U0, upd_same, Z1_1]; rfl))
  have Z2_2 : H2 (c + 1) = some (.cells [.int .i64 (look T s).1.k, .str (look T s).1.t, .int .i64 (look T s).1.n, .int .i64 ((look T s).2 : Int)]) := (f2.at (by omega) (by simp)).trans (by first | (simp only [U0, upd_same]; done) | rfl | (simp only [U0, upd_same]; rfl))
  have hlk := exps_look m H2 km hm (look T s).1.t
  rw [hgv] at hlk
  simp -dsimp -implicitDefEqProofs only [go_sem, Nat.reduceAdd, Nat.reduceEqDiff, reduceIte, reduceCtorEq, Nat.reduceLeDiff, Nat.reduceLT, Nat.reduceSub, Int.reduceEq, Int.reduceLT, preH, OpK_alloc, ldCells, fillV, zeroN, zeroT, pcell, U0, P2, Z2_1, Z2_2, Aw_region1, OpsK_some1, OpsK_none1, OpsK_guard1, maskOf, List.flatMap_cons, List.flatMap_nil, hlk]
  simp only [List.contains_cons, List.contains_nil, Nat.reduceBEq, Bool.or_false, Bool.or_true, Bool.false_or, Bool.true_or, Bool.false_eq_true, if_true, if_false, opKey, ldKey, ev_tmp, get_cons, Nat.reduceEqDiff, reduceIte, Stable_cons, Stable_nil, List.forall_mem_cons, and_true, true_and]
  refine ⟨by simp [Z2_2, upd_same], ?_⟩
  simp -dsimp -implicitDefEqProofs only [go_sem, Nat.reduceAdd, Nat.reduceEqDiff, reduceIte, reduceCtorEq, Nat.reduceLeDiff, Nat.reduceLT, Nat.reduceSub, Int.reduceEq, Int.reduceLT, preH, OpK_alloc, ldCells, fillV, zeroN, zeroT, pcell, U0, P2, Z2_1, Z2_2, nilV, CondV_true, Bool.true_bne, Bool.false_bne]
  refine DoesK_of (hcall _ _ _ (by first | exact P2 | (simp only [U0, upd_same, P2]; done) | (simp only [U0, upd_same, P2]; rfl) | rfl) (by omega)) ?_
  rintro v st ⟨N3, H3, C3, rfl, f3, P3⟩
  have F3 : Fr h c H3 C3 [p] := by
   refine Fr.trans ?_ f3 (by simp)
   refine Fr.more (c1 := C2) ?_ (by omega)
   repeat (first | exact F2 | refine Fr.upd (c1 := C2) ?_ _ (by first | (right; omega) | (left; simp; done)) (Nat.le_refl _))
  have L3 := F3.le
  have M3 := f3.le
  have Z3_1 : H3 (c) = some (.cells zeroN) := (f3.at (by omega) (by simp; omega)).trans (by first | (simp only [U0, upd_same, Z2_1]; done) | rfl | (simp only [U0, upd_same, Z2_1]; rfl))
  have Z3_2 : H3 (c + 1) = some (.cells [.int .i64 (look T s).1.k, .str (look T s).1.t, .int .i64 (look T s).1.n, .int .i64 ((look T s).2 : Int)]) := (f3.at (by omega) (by simp; omega)).trans (by first | (simp only [U0, upd_same, Z2_2]; done) | rfl | (simp only [U0, upd_same, Z2_2]; rfl))
  obtain ⟨o3a, o3b, es3, rfl, E3⟩ := N3.inv
  simp -dsimp -implicitDefEqProofs only [go_sem, Nat.reduceAdd, Nat.reduceEqDiff, reduceIte, reduceCtorEq, Nat.reduceLeDiff, Nat.reduceLT, Nat.reduceSub, Int.reduceEq, Int.reduceLT, preH, OpK_alloc, ldCells, fillV, zeroN, zeroT, pcell, U0, P3, Z3_1, Z3_2]
  exact ⟨N3, _, _, rfl, (by
    refine Fr.more (c1 := C3) ?_ (by omega)
    repeat (first | exact F3 | refine Fr.upd (c1 := C3) ?_ _ (by first | (right; omega) | (left; simp; done)) (Nat.le_refl _))), (by first | exact P3 | (simp only [U0, upd_same, P3]; done) | (simp only [U0, upd_same, P3]; rfl) | rfl)⟩
 split at hr
 ·rename_i h1
  exact key 65 _ hl hr h1.1 (by rw [if_pos h1.2])
 ·rename_i h1
  split at hr
  ·rename_i h2
   exact key 66 _ hf hr h2.1 (by rw [if_neg (fun e => h1 ⟨h2.1, e⟩), if_pos h2.2])
  ·rename_i h2
   split at hr
   ·rename_i h3
    exact key 67 _ hb hr h3.1 (by rw [if_neg (fun e => h1 ⟨h3.1, e⟩), if_neg (fun e => h2 ⟨h3.1, e⟩), if_pos h3.2])
   ·rename_i h3
    clear key
    split at hr
    case h_2 => cases hr
    rename_i n1 s1 g1
    obtain ⟨⟨d1, I1⟩, c1⟩ := hc s n1 s1 hi g1
    have hR : s'.deep = s.deep ∧ Inv T s' := by
     split at hr
     ·split at hr
      case h_2 => cases hr
      rename_i n2 s2 g2
      injection hr with hr; injection hr with r1 r2
      obtain ⟨⟨d2, I2⟩, _⟩ := in_reads hg (I1.may [59]) g2
      rw [← r2]
      exact ⟨by rw [d2, may_deep, d1], I2⟩
     ·injection hr with hr; injection hr with r1 r2
      rw [← r2]; exact ⟨d1, I1⟩
    refine ⟨hR, fun h c d hp hpc => ?_⟩
    clear hR
    refine call_aw b35 rfl rfl rfl ?_; delta b35
    have u1_0 : ∀ h x, upd h (c) x (p) = h (p) := fun h x => upd_ne h x (by omega)
    have u0_1 : ∀ h x, upd h (p) x (c) = h (c) := fun h x => upd_ne h x (by omega)
    have u2_0 : ∀ h x, upd h (c + 1) x (p) = h (p) := fun h x => upd_ne h x (by omega)
    have u0_2 : ∀ h x, upd h (p) x (c + 1) = h (c + 1) := fun h x => upd_ne h x (by omega)
    have u2_1 : ∀ h x, upd h (c + 1) x (c) = h (c) := fun h x => upd_ne h x (by omega)
    have u1_2 : ∀ h x, upd h (c) x (c + 1) = h (c + 1) := fun h x => upd_ne h x (by omega)
    have U1 : _ ∧ _ ∧ _ ∧ _ ∧ _ ∧ _ := ⟨u0_1, u0_2, u1_0, u1_2, u2_0, u2_1⟩
    simp -dsimp -implicitDefEqProofs only [go_sem, Nat.reduceAdd, Nat.reduceEqDiff, reduceIte, reduceCtorEq, Nat.reduceLeDiff, Nat.reduceLT, Nat.reduceSub, Int.reduceEq, Int.reduceLT, preH, OpK_alloc, ldCells, fillV, zeroN, zeroT, pcell, U1, hp]
    refine DoesK_of (look_call (s := s) (o := o) (p := p) hi (by first | exact hp | (simp only [U1, upd_same, hp]; done) | (simp only [U1, upd_same, hp]; rfl) | rfl) (by omega)) ?_
    rintro v st ⟨rfl, H1, C1, rfl, f1, P1⟩
    have F1 : Fr h c H1 C1 [p] := by
     refine Fr.trans ?_ f1 (by simp)
     refine Fr.more (c1 := c) ?_ (by omega)
     repeat (first | exact (Fr.refl h c [p]) | refine Fr.upd (c1 := c) ?_ _ (by first | (right; omega) | (left; simp; done)) (Nat.le_refl _))
    have L1 := F1.le
    have M1 := f1.le
    have Z1_1 : H1 (c) = some (.cells zeroN) := (f1.at (by omega) (by simp; omega)).trans (by first | (simp only [U1, upd_same]; done) | rfl | (simp only [U1, upd_same]; rfl))
    have Z1_2 : H1 (c + 1) = some (.cells zeroT) := (f1.at (by omega) (by simp; omega)).trans (by first | (simp only [U1, upd_same]; done) | rfl | (simp only [U1, upd_same]; rfl))
    cases hk6 : decide ((look T s).1.k = 6)
    ·simp -dsimp -implicitDefEqProofs only [go_sem, Nat.reduceAdd, Nat.reduceEqDiff, reduceIte, reduceCtorEq, Nat.reduceLeDiff, Nat.reduceLT, Nat.reduceSub, Int.reduceEq, Int.reduceLT, preH, OpK_alloc, ldCells, fillV, zeroN, zeroT, pcell, U1, P1, Z1_1, Z1_2, tkV, tokC, hk6, Z1_2]
     have u3_0 : ∀ h x, upd h (C1) x (p) = h (p) := fun h x => upd_ne h x (by omega)
     have u0_3 : ∀ h x, upd h (p) x (C1) = h (C1) := fun h x => upd_ne h x (by omega)
     have u3_1 : ∀ h x, upd h (C1) x (c) = h (c) := fun h x => upd_ne h x (by omega)
     have u1_3 : ∀ h x, upd h (c) x (C1) = h (C1) := fun h x => upd_ne h x (by omega)
     have u3_2 : ∀ h x, upd h (C1) x (c + 1) = h (c + 1) := fun h x => upd_ne h x (by omega)
     have u2_3 : ∀ h x, upd h (c + 1) x (C1) = h (C1) := fun h x => upd_ne h x (by omega)
     have U2 : _ ∧ _ ∧ _ ∧ _ ∧ _ ∧ _ ∧ _ ∧ _ ∧ _ ∧ _ ∧ _ ∧ _ := ⟨u0_1, u0_2, u0_3, u1_0, u1_2, u1_3, u2_0, u2_1, u2_3, u3_0, u3_1, u3_2⟩
     refine DoesK_of (c1 _ _ _ (by first | exact P1 | (simp only [U2, upd_same, P1]; done) | (simp only [U2, upd_same, P1]; rfl) | rfl) (by omega)) ?_
     rintro v st ⟨N2, H2, C2, rfl, f2, P2⟩
     have F2 : Fr h c H2 C2 [p] := by
      refine Fr.trans ?_ f2 (by simp)
      refine Fr.more (c1 := C1) ?_ (by omega)
      repeat (first | exact F1 | refine Fr.upd (c1 := C1) ?_ _ (by first | (right; omega) | (left; simp; done)) (Nat.le_refl _))
     have L2 := F2.le
     have M2 := f2.le
     have Z2_1 : H2 (c) = some (.cells zeroN) := (f2.at (by omega) (by simp; omega)).trans (by first | (simp only [U2, upd_same, Z1_1]; done) | rfl | (simp only [U2, upd_same, Z1_1]; rfl))
     have Z2_2 : H2 (c + 1) = some (.cells [.int .i64 (look T s).1.k, .str (look T s).1.t, .int .i64 (look T s).1.n, .int .i64 ((look T s).2 : Int)]) := (f2.at (by omega) (by simp; omega)).trans (by first | (simp only [U2, upd_same]; done) | rfl | (simp only [U2, upd_same]; rfl))
     have Z2_3 : H2 (C1) = some (.cells zeroN) := (f2.at (by omega) (by simp; omega)).trans (by first | (simp only [U2, upd_same]; done) | rfl | (simp only [U2, upd_same]; rfl))
     obtain ⟨o2a, o2b, es2, rfl, E2⟩ := N2.inv
     cases hfl : s1.flat
     ·rw [hfl] at hr
      simp -dsimp -implicitDefEqProofs only [go_sem, Nat.reduceAdd, Nat.reduceEqDiff, reduceIte, reduceCtorEq, Nat.reduceLeDiff, Nat.reduceLT, Nat.reduceSub, Int.reduceEq, Int.reduceLT, preH, OpK_alloc, ldCells, fillV, zeroN, zeroT, pcell, U2, P2, Z2_1, Z2_2, hfl, Z2_3]
      refine DoesK_of (may_call (s := s1) (o := o) (p := p) I1 (by first | exact P2 | (simp only [U2, upd_same, P2]; done) | (simp only [U2, upd_same, P2]; rfl) | rfl) (by omega) [59]) ?_
      rintro v st ⟨rfl, H3, C3, rfl, f3, P3⟩
      have F3 : Fr h c H3 C3 [p] := by
       refine Fr.trans ?_ f3 (by simp)
       refine Fr.more (c1 := C2) ?_ (by omega)
       repeat (first | exact F2 | refine Fr.upd (c1 := C2) ?_ _ (by first | (right; omega) | (left; simp; done)) (Nat.le_refl _))
      have L3 := F3.le
      have M3 := f3.le
      have Z3_1 : H3 (c) = some (.cells zeroN) := (f3.at (by omega) (by simp; omega)).trans (by first | (simp only [U2, upd_same, Z2_1]; done) | rfl | (simp only [U2, upd_same, Z2_1]; rfl))
      have Z3_2 : H3 (c + 1) = some (.cells [.int .i64 (look T s).1.k, .str (look T s).1.t, .int .i64 (look T s).1.n, .int .i64 ((look T s).2 : Int)]) := (f3.at (by omega) (by simp; omega)).trans (by first | (simp only [U2, upd_same, Z2_2]; done) | rfl | (simp only [U2, upd_same, Z2_2]; rfl))
      have Z3_3 : H3 (C1) = some (.cells [.int .i64 n1.k, .str n1.t, .int .i64 n1.n, .int .i64 n1.a, .slice o2a (n1.ns.map AV.str), .slice o2b es2]) := (f3.at (by omega) (by simp; omega)).trans (by first | (simp only [U2, upd_same]; done) | rfl | (simp only [U2, upd_same]; rfl))
      cases hsm : isW T [59] s1
      ·rw [hsm] at hr
       rw [if_neg (by simp)] at hr
       injection hr with hr; injection hr with r1 r2
       subst r1; subst r2
       simp -dsimp -implicitDefEqProofs only [go_sem, Nat.reduceAdd, Nat.reduceEqDiff, reduceIte, reduceCtorEq, Nat.reduceLeDiff, Nat.reduceLT, Nat.reduceSub, Int.reduceEq, Int.reduceLT, preH, OpK_alloc, ldCells, fillV, zeroN, zeroT, pcell, U2, P3, Z3_1, Z3_2, Z3_3, hsm]
       have hms : mayS T [59] s1 = s1 := by rw [mayS, if_neg (by simp [hsm])]
       rw [hms] at P3
       exact ⟨N2, _, _, rfl, (by
         refine Fr.more (c1 := C3) ?_ (by omega)
         repeat (first | exact F3 | refine Fr.upd (c1 := C3) ?_ _ (by first | (right; omega) | (left; simp; done)) (Nat.le_refl _))), (by first | exact P3 | (simp only [U2, upd_same, P3]; done) | (simp only [U2, upd_same, P3]; rfl) | rfl)⟩
      ·rw [hsm] at hr
       rw [if_pos (by simp)] at hr
       split at hr
       case h_2 => cases hr
       rename_i n2 s2 g2
       injection hr with hr; injection hr with r1 r2
       subst r1; subst r2
       obtain ⟨⟨d2, I2⟩, c2⟩ := in_reads hg (I1.may [59]) g2
       simp -dsimp -implicitDefEqProofs only [go_sem, Nat.reduceAdd, Nat.reduceEqDiff, reduceIte, reduceCtorEq, Nat.reduceLeDiff, Nat.reduceLT, Nat.reduceSub, Int.reduceEq, Int.reduceLT, preH, OpK_alloc, ldCells, fillV, zeroN, zeroT, pcell, U2, P3, Z3_1, Z3_2, Z3_3, hsm, Aw_region1, OpsK_some1, OpsK_none1, OpsK_guard1, maskOf, List.flatMap_cons, List.flatMap_nil]
       refine DoesK_of (c2 _ _ _ (by first | exact P3 | (simp only [U2, upd_same, P3]; done) | (simp only [U2, upd_same, P3]; rfl) | rfl) (by omega)) ?_
       rintro v st ⟨N4, H4, C4, rfl, f4, P4⟩
       have F4 : Fr h c H4 C4 [p] := by
        refine Fr.trans ?_ f4 (by simp)
        refine Fr.more (c1 := C3) ?_ (by omega)
        repeat (first | exact F3 | refine Fr.upd (c1 := C3) ?_ _ (by first | (right; omega) | (left; simp; done)) (Nat.le_refl _))
       have L4 := F4.le
       have M4 := f4.le
       have Z4_1 : H4 (c) = some (.cells zeroN) := (f4.at (by omega) (by simp; omega)).trans (by first | (simp only [U2, upd_same, Z3_1]; done) | rfl | (simp only [U2, upd_same, Z3_1]; rfl))
       have Z4_2 : H4 (c + 1) = some (.cells [.int .i64 (look T s).1.k, .str (look T s).1.t, .int .i64 (look T s).1.n, .int .i64 ((look T s).2 : Int)]) := (f4.at (by omega) (by simp; omega)).trans (by first | (simp only [U2, upd_same, Z3_2]; done) | rfl | (simp only [U2, upd_same, Z3_2]; rfl))
       have Z4_3 : H4 (C1) = some (.cells [.int .i64 n1.k, .str n1.t, .int .i64 n1.n, .int .i64 n1.a, .slice o2a (n1.ns.map AV.str), .slice o2b es2]) := (f4.at (by omega) (by simp; omega)).trans (by first | (simp only [U2, upd_same, Z3_3]; done) | rfl | (simp only [U2, upd_same, Z3_3]; rfl))
       obtain ⟨o4a, o4b, es4, rfl, E4⟩ := N4.inv
       simp -dsimp -implicitDefEqProofs only [go_sem, Nat.reduceAdd, Nat.reduceEqDiff, reduceIte, reduceCtorEq, Nat.reduceLeDiff, Nat.reduceLT, Nat.reduceSub, Int.reduceEq, Int.reduceLT, preH, OpK_alloc, ldCells, fillV, zeroN, zeroT, pcell, U2, P4, Z4_1, Z4_2, Z4_3, Aw_region1, OpsK_some1, OpsK_none1, OpsK_guard1, maskOf, List.flatMap_cons, List.flatMap_nil, partsV]
       refine DoesK_of (node_call 14 _ _ .full _ _ _ _) ?_
       rintro v st ⟨rfl, H5, C5, rfl, f5⟩
       have F5 : Fr h c H5 C5 [p] := by
        refine Fr.trans ?_ f5 (by simp)
        refine Fr.more (c1 := C4) ?_ (by omega)
        repeat (first | exact F4 | refine Fr.upd (c1 := C4) ?_ _ (by first | (right; omega) | (left; simp; done)) (Nat.le_refl _))
       have L5 := F5.le
       have M5 := f5.le
       have P5 : H5 p = _ := (f5.at (by omega) (by simp)).trans (by first | exact P4 | (simp only [U2, upd_same, P4]; rfl))
       have Z5_1 : H5 (c) = some (.cells zeroN) := (f5.at (by omega) (by simp)).trans (by first | (simp only [U2, upd_same, Z4_1]; done) | rfl | (simp only [U2, upd_same, Z4_1]; rfl))
       have Z5_2 : H5 (c + 1) = some (.cells [.int .i64 (look T s).1.k, .str (look T s).1.t, .int .i64 (look T s).1.n, .int .i64 ((look T s).2 : Int)]) := (f5.at (by omega) (by simp)).trans (by first | (simp only [U2, upd_same, Z4_2]; done) | rfl | (simp only [U2, upd_same, Z4_2]; rfl))
       have Z5_3 : H5 (C1) = some (.cells [.int .i64 n1.k, .str n1.t, .int .i64 n1.n, .int .i64 n1.a, .slice o2a (n1.ns.map AV.str), .slice o2b es2]) := (f5.at (by omega) (by simp)).trans (by first | (simp only [U2, upd_same, Z4_3]; done) | rfl | (simp only [U2, upd_same, Z4_3]; rfl))
       simp -dsimp -implicitDefEqProofs only [go_sem, Nat.reduceAdd, Nat.reduceEqDiff, reduceIte, reduceCtorEq, Nat.reduceLeDiff, Nat.reduceLT, Nat.reduceSub, Int.reduceEq, Int.reduceLT, preH, OpK_alloc, ldCells, fillV, zeroN, zeroT, pcell, U2, P5, Z5_1, Z5_2, Z5_3, Aw_region1, OpsK_some1, OpsK_none1, OpsK_guard1, maskOf, List.flatMap_cons, List.flatMap_nil]
       simp only [List.contains_cons, List.contains_nil, Nat.reduceBEq, Bool.or_false, Bool.or_true, Bool.false_or, Bool.true_or, Bool.false_eq_true, if_true, if_false, opKey, ldKey, ev_tmp, get_cons, Nat.reduceEqDiff, reduceIte, Stable_cons, Stable_nil, List.forall_mem_cons, and_true, true_and]
       refine ⟨by simp [Z3_3, Z4_3, Z5_3, upd_same], ?_⟩
       exact ⟨.mk rfl ((NRs.one N2).app (NRs.one N4)).2, _, _, rfl, (by
         refine Fr.more (c1 := C5) ?_ (by omega)
         repeat (first | exact F5 | refine Fr.upd (c1 := C5) ?_ _ (by first | (right; omega) | (left; simp; done)) (Nat.le_refl _))), (by first | exact P5 | (simp only [U2, upd_same, P5]; done) | (simp only [U2, upd_same, P5]; rfl) | rfl)⟩
     ·rw [hfl] at hr
      rw [if_neg (by simp)] at hr
      injection hr with hr; injection hr with r1 r2
      subst r1; subst r2
      simp -dsimp -implicitDefEqProofs only [go_sem, Nat.reduceAdd, Nat.reduceEqDiff, reduceIte, reduceCtorEq, Nat.reduceLeDiff, Nat.reduceLT, Nat.reduceSub, Int.reduceEq, Int.reduceLT, preH, OpK_alloc, ldCells, fillV, zeroN, zeroT, pcell, U2, P2, Z2_1, Z2_2, hfl, Z2_3]
      exact ⟨N2, _, _, rfl, (by
        refine Fr.more (c1 := C2) ?_ (by omega)
        repeat (first | exact F2 | refine Fr.upd (c1 := C2) ?_ _ (by first | (right; omega) | (left; simp; done)) (Nat.le_refl _))), (by first | exact P2 | (simp only [U2, upd_same, P2]; done) | (simp only [U2, upd_same, P2]; rfl) | rfl)⟩
    ·have hk : (look T s).1.k = 6 := by simpa using hk6
     simp -dsimp -implicitDefEqProofs only [go_sem, Nat.reduceAdd, Nat.reduceEqDiff, reduceIte, reduceCtorEq, Nat.reduceLeDiff, Nat.reduceLT, Nat.reduceSub, Int.reduceEq, Int.reduceLT, preH, OpK_alloc, ldCells, fillV, zeroN, zeroT, pcell, U1, P1, Z1_1, Z1_2, tkV, tokC, hk6, CondV_true, Aw_region1, OpsK_some1, OpsK_none1, OpsK_guard1, maskOf, List.flatMap_cons, List.flatMap_nil, Z1_2]
     refine DoesK_of (exps_call _ _ _) ?_
     rintro v st ⟨m, rfl, H2, C2, rfl, f2, hm1, hm2, km, hm⟩
     have F2 : Fr h c H2 C2 [p] := by
      refine Fr.trans ?_ f2 (by simp)
      refine Fr.more (c1 := C1) ?_ (by omega)
      repeat (first | exact F1 | refine Fr.upd (c1 := C1) ?_ _ (by first | (right; omega) | (left; simp; done)) (Nat.le_refl _))
     have L2 := F2.le
     have M2 := f2.le
     have P2 : H2 p = _ := (f2.at (by omega) (by simp)).trans (by first | exact P1 | (simp only [U1, upd_same, P1]; rfl))
     have Z2_1 : H2 (c) = some (.cells zeroN) := (f2.at (by omega) (by simp)).trans (by first | (simp only [U1, upd_same, Z1_1]; done) | rfl | (simp only [U1, upd_same, Z1_1]; rfl))
     have Z2_2 : H2 (c + 1) = some (.cells [.int .i64 (look T s).1.k, .str (look T s).1.t, .int .i64 (look T s).1.n, .int .i64 ((look T s).2 : Int)]) := (f2.at (by omega) (by simp)).trans (by first | (simp only [U1, upd_same]; done) | rfl | (simp only [U1, upd_same]; rfl))
     have hlk := exps_look m H2 km hm (look T s).1.t
     rw [if_neg (fun e => h1 ⟨hk, e⟩), if_neg (fun e => h2 ⟨hk, e⟩), if_neg (fun e => h3 ⟨hk, e⟩)] at hlk
     simp -dsimp -implicitDefEqProofs only [go_sem, Nat.reduceAdd, Nat.reduceEqDiff, reduceIte, reduceCtorEq, Nat.reduceLeDiff, Nat.reduceLT, Nat.reduceSub, Int.reduceEq, Int.reduceLT, preH, OpK_alloc, ldCells, fillV, zeroN, zeroT, pcell, U1, P2, Z2_1, Z2_2, Aw_region1, OpsK_some1, OpsK_none1, OpsK_guard1, maskOf, List.flatMap_cons, List.flatMap_nil, hlk]
     simp only [List.contains_cons, List.contains_nil, Nat.reduceBEq, Bool.or_false, Bool.or_true, Bool.false_or, Bool.true_or, Bool.false_eq_true, if_true, if_false, opKey, ldKey, ev_tmp, get_cons, Nat.reduceEqDiff, reduceIte, Stable_cons, Stable_nil, List.forall_mem_cons, and_true, true_and]
     refine ⟨by simp [Z2_2, upd_same], ?_⟩
     simp -dsimp -implicitDefEqProofs only [go_sem, Nat.reduceAdd, Nat.reduceEqDiff, reduceIte, reduceCtorEq, Nat.reduceLeDiff, Nat.reduceLT, Nat.reduceSub, Int.reduceEq, Int.reduceLT, preH, OpK_alloc, ldCells, fillV, zeroN, zeroT, pcell, U1, P2, Z2_1, Z2_2, nilV, Bool.true_bne, Bool.false_bne]
     have u3_0 : ∀ h x, upd h (C2) x (p) = h (p) := fun h x => upd_ne h x (by omega)
     have u0_3 : ∀ h x, upd h (p) x (C2) = h (C2) := fun h x => upd_ne h x (by omega)
     have u3_1 : ∀ h x, upd h (C2) x (c) = h (c) := fun h x => upd_ne h x (by omega)
     have u1_3 : ∀ h x, upd h (c) x (C2) = h (C2) := fun h x => upd_ne h x (by omega)
     have u3_2 : ∀ h x, upd h (C2) x (c + 1) = h (c + 1) := fun h x => upd_ne h x (by omega)
     have u2_3 : ∀ h x, upd h (c + 1) x (C2) = h (C2) := fun h x => upd_ne h x (by omega)
     have U3 : _ ∧ _ ∧ _ ∧ _ ∧ _ ∧ _ ∧ _ ∧ _ ∧ _ ∧ _ ∧ _ ∧ _ := ⟨u0_1, u0_2, u0_3, u1_0, u1_2, u1_3, u2_0, u2_1, u2_3, u3_0, u3_1, u3_2⟩
     refine DoesK_of (c1 _ _ _ (by first | exact P2 | (simp only [U3, upd_same, P2]; done) | (simp only [U3, upd_same, P2]; rfl) | rfl) (by omega)) ?_
     rintro v st ⟨N3, H3, C3, rfl, f3, P3⟩
     have F3 : Fr h c H3 C3 [p] := by
      refine Fr.trans ?_ f3 (by simp)
      refine Fr.more (c1 := C2) ?_ (by omega)
      repeat (first | exact F2 | refine Fr.upd (c1 := C2) ?_ _ (by first | (right; omega) | (left; simp; done)) (Nat.le_refl _))
     have L3 := F3.le
     have M3 := f3.le
     have Z3_1 : H3 (c) = some (.cells zeroN) := (f3.at (by omega) (by simp; omega)).trans (by first | (simp only [U3, upd_same, Z2_1]; done) | rfl | (simp only [U3, upd_same, Z2_1]; rfl))
     have Z3_2 : H3 (c + 1) = some (.cells [.int .i64 (look T s).1.k, .str (look T s).1.t, .int .i64 (look T s).1.n, .int .i64 ((look T s).2 : Int)]) := (f3.at (by omega) (by simp; omega)).trans (by first | (simp only [U3, upd_same, Z2_2]; done) | rfl | (simp only [U3, upd_same, Z2_2]; rfl))
     have Z3_3 : H3 (C2) = some (.cells zeroN) := (f3.at (by omega) (by simp; omega)).trans (by first | (simp only [U3, upd_same]; done) | rfl | (simp only [U3, upd_same]; rfl))
     obtain ⟨o3a, o3b, es3, rfl, E3⟩ := N3.inv
     cases hfl : s1.flat
     ·rw [hfl] at hr
      simp -dsimp -implicitDefEqProofs only [go_sem, Nat.reduceAdd, Nat.reduceEqDiff, reduceIte, reduceCtorEq, Nat.reduceLeDiff, Nat.reduceLT, Nat.reduceSub, Int.reduceEq, Int.reduceLT, preH, OpK_alloc, ldCells, fillV, zeroN, zeroT, pcell, U3, P3, Z3_1, Z3_2, hfl, Z3_3]
      refine DoesK_of (may_call (s := s1) (o := o) (p := p) I1 (by first | exact P3 | (simp only [U3, upd_same, P3]; done) | (simp only [U3, upd_same, P3]; rfl) | rfl) (by omega) [59]) ?_
      rintro v st ⟨rfl, H4, C4, rfl, f4, P4⟩
      have F4 : Fr h c H4 C4 [p] := by
       refine Fr.trans ?_ f4 (by simp)
       refine Fr.more (c1 := C3) ?_ (by omega)
       repeat (first | exact F3 | refine Fr.upd (c1 := C3) ?_ _ (by first | (right; omega) | (left; simp; done)) (Nat.le_refl _))
      have L4 := F4.le
      have M4 := f4.le
      have Z4_1 : H4 (c) = some (.cells zeroN) := (f4.at (by omega) (by simp; omega)).trans (by first | (simp only [U3, upd_same, Z3_1]; done) | rfl | (simp only [U3, upd_same, Z3_1]; rfl))
      have Z4_2 : H4 (c + 1) = some (.cells [.int .i64 (look T s).1.k, .str (look T s).1.t, .int .i64 (look T s).1.n, .int .i64 ((look T s).2 : Int)]) := (f4.at (by omega) (by simp; omega)).trans (by first | (simp only [U3, upd_same, Z3_2]; done) | rfl | (simp only [U3, upd_same, Z3_2]; rfl))
      have Z4_3 : H4 (C2) = some (.cells [.int .i64 n1.k, .str n1.t, .int .i64 n1.n, .int .i64 n1.a, .slice o3a (n1.ns.map AV.str), .slice o3b es3]) := (f4.at (by omega) (by simp; omega)).trans (by first | (simp only [U3, upd_same]; done) | rfl | (simp only [U3, upd_same]; rfl))
      cases hsm : isW T [59] s1
      ·rw [hsm] at hr
       rw [if_neg (by simp)] at hr
       injection hr with hr; injection hr with r1 r2
       subst r1; subst r2
       simp -dsimp -implicitDefEqProofs only [go_sem, Nat.reduceAdd, Nat.reduceEqDiff, reduceIte, reduceCtorEq, Nat.reduceLeDiff, Nat.reduceLT, Nat.reduceSub, Int.reduceEq, Int.reduceLT, preH, OpK_alloc, ldCells, fillV, zeroN, zeroT, pcell, U3, P4, Z4_1, Z4_2, Z4_3, hsm]
       have hms : mayS T [59] s1 = s1 := by rw [mayS, if_neg (by simp [hsm])]
       rw [hms] at P4
       exact ⟨N3, _, _, rfl, (by
         refine Fr.more (c1 := C4) ?_ (by omega)
         repeat (first | exact F4 | refine Fr.upd (c1 := C4) ?_ _ (by first | (right; omega) | (left; simp; done)) (Nat.le_refl _))), (by first | exact P4 | (simp only [U3, upd_same, P4]; done) | (simp only [U3, upd_same, P4]; rfl) | rfl)⟩
      ·rw [hsm] at hr
       rw [if_pos (by simp)] at hr
       split at hr
       case h_2 => cases hr
       rename_i n2 s2 g2
       injection hr with hr; injection hr with r1 r2
       subst r1; subst r2
       obtain ⟨⟨d2, I2⟩, c2⟩ := in_reads hg (I1.may [59]) g2
       simp -dsimp -implicitDefEqProofs only [go_sem, Nat.reduceAdd, Nat.reduceEqDiff, reduceIte, reduceCtorEq, Nat.reduceLeDiff, Nat.reduceLT, Nat.reduceSub, Int.reduceEq, Int.reduceLT, preH, OpK_alloc, ldCells, fillV, zeroN, zeroT, pcell, U3, P4, Z4_1, Z4_2, Z4_3, hsm, Aw_region1, OpsK_some1, OpsK_none1, OpsK_guard1, maskOf, List.flatMap_cons, List.flatMap_nil]
       refine DoesK_of (c2 _ _ _ (by first | exact P4 | (simp only [U3, upd_same, P4]; done) | (simp only [U3, upd_same, P4]; rfl) | rfl) (by omega)) ?_
       rintro v st ⟨N5, H5, C5, rfl, f5, P5⟩
       have F5 : Fr h c H5 C5 [p] := by
        refine Fr.trans ?_ f5 (by simp)
        refine Fr.more (c1 := C4) ?_ (by omega)
        repeat (first | exact F4 | refine Fr.upd (c1 := C4) ?_ _ (by first | (right; omega) | (left; simp; done)) (Nat.le_refl _))
       have L5 := F5.le
       have M5 := f5.le
       have Z5_1 : H5 (c) = some (.cells zeroN) := (f5.at (by omega) (by simp; omega)).trans (by first | (simp only [U3, upd_same, Z4_1]; done) | rfl | (simp only [U3, upd_same, Z4_1]; rfl))
       have Z5_2 : H5 (c + 1) = some (.cells [.int .i64 (look T s).1.k, .str (look T s).1.t, .int .i64 (look T s).1.n, .int .i64 ((look T s).2 : Int)]) := (f5.at (by omega) (by simp; omega)).trans (by first | (simp only [U3, upd_same, Z4_2]; done) | rfl | (simp only [U3, upd_same, Z4_2]; rfl))
       have Z5_3 : H5 (C2) = some (.cells [.int .i64 n1.k, .str n1.t, .int .i64 n1.n, .int .i64 n1.a, .slice o3a (n1.ns.map AV.str), .slice o3b es3]) := (f5.at (by omega) (by simp; omega)).trans (by first | (simp only [U3, upd_same, Z4_3]; done) | rfl | (simp only [U3, upd_same, Z4_3]; rfl))
       obtain ⟨o5a, o5b, es5, rfl, E5⟩ := N5.inv
       simp -dsimp -implicitDefEqProofs only [go_sem, Nat.reduceAdd, Nat.reduceEqDiff, reduceIte, reduceCtorEq, Nat.reduceLeDiff, Nat.reduceLT, Nat.reduceSub, Int.reduceEq, Int.reduceLT, preH, OpK_alloc, ldCells, fillV, zeroN, zeroT, pcell, U3, P5, Z5_1, Z5_2, Z5_3, Aw_region1, OpsK_some1, OpsK_none1, OpsK_guard1, maskOf, List.flatMap_cons, List.flatMap_nil, partsV]
       refine DoesK_of (node_call 14 _ _ .full _ _ _ _) ?_
       rintro v st ⟨rfl, H6, C6, rfl, f6⟩
       have F6 : Fr h c H6 C6 [p] := by
        refine Fr.trans ?_ f6 (by simp)
        refine Fr.more (c1 := C5) ?_ (by omega)
        repeat (first | exact F5 | refine Fr.upd (c1 := C5) ?_ _ (by first | (right; omega) | (left; simp; done)) (Nat.le_refl _))
       have L6 := F6.le
       have M6 := f6.le
       have P6 : H6 p = _ := (f6.at (by omega) (by simp)).trans (by first | exact P5 | (simp only [U3, upd_same, P5]; rfl))
       have Z6_1 : H6 (c) = some (.cells zeroN) := (f6.at (by omega) (by simp)).trans (by first | (simp only [U3, upd_same, Z5_1]; done) | rfl | (simp only [U3, upd_same, Z5_1]; rfl))
       have Z6_2 : H6 (c + 1) = some (.cells [.int .i64 (look T s).1.k, .str (look T s).1.t, .int .i64 (look T s).1.n, .int .i64 ((look T s).2 : Int)]) := (f6.at (by omega) (by simp)).trans (by first | (simp only [U3, upd_same, Z5_2]; done) | rfl | (simp only [U3, upd_same, Z5_2]; rfl))
       have Z6_3 : H6 (C2) = some (.cells [.int .i64 n1.k, .str n1.t, .int .i64 n1.n, .int .i64 n1.a, .slice o3a (n1.ns.map AV.str), .slice o3b es3]) := (f6.at (by omega) (by simp)).trans (by first | (simp only [U3, upd_same, Z5_3]; done) | rfl | (simp only [U3, upd_same, Z5_3]; rfl))
       simp -dsimp -implicitDefEqProofs only [go_sem, Nat.reduceAdd, Nat.reduceEqDiff, reduceIte, reduceCtorEq, Nat.reduceLeDiff, Nat.reduceLT, Nat.reduceSub, Int.reduceEq, Int.reduceLT, preH, OpK_alloc, ldCells, fillV, zeroN, zeroT, pcell, U3, P6, Z6_1, Z6_2, Z6_3, Aw_region1, OpsK_some1, OpsK_none1, OpsK_guard1, maskOf, List.flatMap_cons, List.flatMap_nil]
       simp only [List.contains_cons, List.contains_nil, Nat.reduceBEq, Bool.or_false, Bool.or_true, Bool.false_or, Bool.true_or, Bool.false_eq_true, if_true, if_false, opKey, ldKey, ev_tmp, get_cons, Nat.reduceEqDiff, reduceIte, Stable_cons, Stable_nil, List.forall_mem_cons, and_true, true_and]
       refine ⟨by simp [Z4_3, Z5_3, Z6_3, upd_same], ?_⟩
       exact ⟨.mk rfl ((NRs.one N3).app (NRs.one N5)).2, _, _, rfl, (by
         refine Fr.more (c1 := C6) ?_ (by omega)
         repeat (first | exact F6 | refine Fr.upd (c1 := C6) ?_ _ (by first | (right; omega) | (left; simp; done)) (Nat.le_refl _))), (by first | exact P6 | (simp only [U3, upd_same, P6]; done) | (simp only [U3, upd_same, P6]; rfl) | rfl)⟩
     ·rw [hfl] at hr
      rw [if_neg (by simp)] at hr
      injection hr with hr; injection hr with r1 r2
      subst r1; subst r2
      simp -dsimp -implicitDefEqProofs only [go_sem, Nat.reduceAdd, Nat.reduceEqDiff, reduceIte, reduceCtorEq, Nat.reduceLeDiff, Nat.reduceLT, Nat.reduceSub, Int.reduceEq, Int.reduceLT, preH, OpK_alloc, ldCells, fillV, zeroN, zeroT, pcell, U3, P3, Z3_1, Z3_2, hfl, Z3_3]
      exact ⟨N3, _, _, rfl, (by
        refine Fr.more (c1 := C3) ?_ (by omega)
        repeat (first | exact F3 | refine Fr.upd (c1 := C3) ?_ _ (by first | (right; omega) | (left; simp; done)) (Nat.le_refl _))), (by first | exact P3 | (simp only [U3, upd_same, P3]; done) | (simp only [U3, upd_same, P3]; rfl) | rfl)⟩
end
def wIdx (x : List UInt8) : List (List UInt8) → Int
 | [] => -1
 | w :: l => if w = x then 0 else if wIdx x l < 0 then -1 else wIdx x l + 1
theorem wIdx_at (x : List UInt8) : ∀ (l : List (List UInt8)) (j : Nat), (∀ i, i < j → l[i]? ≠ some x) → j ≤ l.length → (l[j]? = some x → wIdx x l = j) ∧ (j = l.length → wIdx x l = -1)
 | [], j, h, hj => by
  have : j = 0 := by simpa using hj
  subst this
  exact ⟨fun e => by simp at e, fun _ => rfl⟩
 | w :: l, 0, h, hj => ⟨fun e => by simp at e; simp [wIdx, e], fun e => by simp at e⟩
 | w :: l, j + 1, h, hj => by
  have hw : w ≠ x := by have := h 0 (by omega); simpa using this
  obtain ⟨h1, h2⟩ := wIdx_at x l j (fun i hi => by have := h (i + 1) (by omega); simpa using this) (by simpa using hj)
  refine ⟨fun e => ?_, fun e => ?_⟩
  ·have := h1 (by simpa using e)
   rw [wIdx, if_neg hw, this, if_neg (by omega)]; rfl
  ·have := h2 (by simpa using e)
   rw [wIdx, if_neg hw, this]; rfl
theorem wIdx_mem (x : List UInt8) : ∀ l : List (List UInt8), decide (wIdx x l ≥ 0) = decide (x ∈ l)
 | [] => by simp [wIdx]
 | w :: l => by
  have ih := wIdx_mem x l
  rw [decide_eq_decide] at ih ⊢
  rw [wIdx]
  by_cases h : w = x
  ·simp [h]
  ·have hne : ¬ x = w := fun e => h e.symm
   rw [if_neg h]
   simp only [List.mem_cons, hne, false_or]
   rw [← ih]
   split <;> omega
theorem sindex_call (l : List (List UInt8)) (hl : l.length < 1000) (o : Own) (x : List UInt8) (st : ASt) : Does X 95 [.slice o (l.map AV.str), .str x] st fun v s' => v = .int .i64 (wIdx x l) ∧ s' = st := by
 obtain ⟨h, c, d⟩ := st
 refine call_aw b95 rfl rfl rfl ?_; delta b95
 simp -dsimp -implicitDefEqProofs only [go_sem, Nat.reduceAdd, Nat.reduceEqDiff, reduceIte, reduceCtorEq, Nat.reduceLeDiff, Nat.reduceLT, Nat.reduceSub, Int.reduceEq, Int.reduceLT, List.length_map]
 let I : Nat → AEnv → ASt → Prop := fun m e st => ∃ j : Nat, m = l.length - j ∧ j ≤ l.length ∧ (∀ i, i < j → l[i]? ≠ some x) ∧ e.get 0 = .slice o (l.map AV.str) ∧ e.get 1 = .str x ∧ e.get 7 = .int .i64 (l.length : Int) ∧ e.get 8 = .int .i64 (j : Int) ∧ st = ⟨h, c, []⟩
 refine LoopK_rule I l.length ⟨0, rfl, Nat.zero_le _, fun i hi => by omega, rfl, rfl, rfl, rfl, rfl⟩ ?_
 rintro m e st ⟨j, rfl, hj, hno, g0, g1, g7, g8, rfl⟩
 simp -dsimp -implicitDefEqProofs only [go_sem, Nat.reduceAdd, Nat.reduceEqDiff, reduceIte, reduceCtorEq, Nat.reduceLeDiff, Nat.reduceLT, Nat.reduceSub, Int.reduceEq, Int.reduceLT, g0, g1, g7, g8]
 refine CondV_split (fun hc => ?_) fun hc => ?_
 ·have hj' : j < l.length := by simp at hc; omega
  obtain ⟨y, hg⟩ : ∃ y, l[j]? = some y := ⟨_, List.getElem?_eq_getElem hj'⟩
  simp -dsimp -implicitDefEqProofs only [go_sem, Nat.reduceAdd, Nat.reduceEqDiff, reduceIte, reduceCtorEq, Nat.reduceLeDiff, Nat.reduceLT, Nat.reduceSub, Int.reduceEq, Int.reduceLT, g0, g1, g7, g8, hg, elemA]
  refine CondV_split (fun hq => ?_) fun hq => ?_
  ·have hx : x = y := by simpa using hq
   have hI := (wIdx_at x l j hno hj).1 (by rw [hg, hx])
   simp -dsimp -implicitDefEqProofs only [go_sem, Nat.reduceAdd, Nat.reduceEqDiff, reduceIte, reduceCtorEq, Nat.reduceLeDiff, Nat.reduceLT, Nat.reduceSub, Int.reduceEq, Int.reduceLT, g0, g1, g7, g8, hI]
  ·have hx : x ≠ y := by simpa using hq
   simp -dsimp -implicitDefEqProofs only [go_sem, Nat.reduceAdd, Nat.reduceEqDiff, reduceIte, reduceCtorEq, Nat.reduceLeDiff, Nat.reduceLT, Nat.reduceSub, Int.reduceEq, Int.reduceLT, g0, g1, g7, g8]
   refine Again.of (l.length - (j + 1)) (by omega) ⟨j + 1, rfl, hj', fun i hi => ?_, g0, g1, g7, ?_, rfl⟩
   ·rcases Nat.lt_or_ge i j with h' | h'
    ·exact hno i h'
    ·obtain rfl : i = j := by omega
     rw [hg]; simpa using fun e => hx e.symm
   ·show AV.int .i64 (IntKind.wrap .i64 ((j : Int) + 1)) = _
    rw [wrap_i64 (by omega) (by omega)]; rfl
 ·have hj' : j = l.length := by simp at hc; omega
  have hI := (wIdx_at x l j hno hj).2 hj'
  simp -dsimp -implicitDefEqProofs only [go_sem, Nat.reduceAdd, Nat.reduceEqDiff, reduceIte, reduceCtorEq, Nat.reduceLeDiff, Nat.reduceLT, Nat.reduceSub, Int.reduceEq, Int.reduceLT, g0, g1, g7, g8, hI]
theorem scontains_call (l : List (List UInt8)) (hl : l.length < 1000) (o : Own) (x : List UInt8) (st : ASt) : Does X 83 [.slice o (l.map AV.str), .str x] st fun v s' => v = .bool (decide (x ∈ l)) ∧ s' = st := by
 obtain ⟨h, c, d⟩ := st
 refine call_aw b83 rfl rfl rfl ?_; delta b83
 simp -dsimp -implicitDefEqProofs only [go_sem, Nat.reduceAdd, Nat.reduceEqDiff, reduceIte, reduceCtorEq, Nat.reduceLeDiff, Nat.reduceLT, Nat.reduceSub, Int.reduceEq, Int.reduceLT]
 refine DoesK_of (sindex_call l hl o x _) ?_
 rintro v s' ⟨rfl, rfl⟩
 have hm := wIdx_mem x l
 simp -dsimp -implicitDefEqProofs only [go_sem, Nat.reduceAdd, Nat.reduceEqDiff, reduceIte, reduceCtorEq, Nat.reduceLeDiff, Nat.reduceLT, Nat.reduceSub, Int.reduceEq, Int.reduceLT, hm]
/-- How a function of the parser reads that takes something besides. -/
def ReadsA (T : List Tok) (p : Nat) (o : Own) (g : Nat) (more : List AV) (rn : PS → Option (Nd × PS)) : Prop := ∀ s n s', Inv T s → rn s = some (n, s') → (s'.deep = s.deep ∧ Inv T s') ∧ ∀ h c d, h p = some (pcell o T s) → p < c → Does X g (.ptr p 0 :: more) ⟨h, c, d⟩ (NK p o T h c d n s')
def signsV (mul : Bool) : AV := .slice .full ((signsOf mul).map AV.str)
/-- How a sum's part is read, by the closure. -/
def ReadsPt (T : List Tok) (p : Nat) (o : Own) (mul : Bool) (rn : PS → Option (Nd × PS)) : Prop := ∀ s n s', Inv T s → rn s = some (n, s') → (s'.deep = s.deep ∧ Inv T s') ∧ ∀ h c d a b, h p = some (pcell o T s) → p < c → a < c → b < c → a ≠ p → b ≠ p → h a = some (.cells [signsV mul]) → h b = some (.cells [.ptr p 0]) →
 Does X 81 [.ptr a 0, .ptr b 0] ⟨h, c, d⟩ (NK p o T h c d n s')
section
variable {T : List Tok} {p : Nat} {o : Own}
theorem part_reads (mul : Bool) {rn : PS → Option (Nd × PS)} (hg : if mul then Reads T p o 82 rn else ReadsA T p o 68 [signsV true] rn) : ReadsPt T p o mul rn := by
 intro s n s' hi hr
 cases mul with
 | true =>
  obtain ⟨hI, hc⟩ := (show Reads T p o 82 rn from hg) s n s' hi hr
  refine ⟨hI, fun h c d a b hp hpc hac hbc hap hbp ha hb => ?_⟩
  refine call_aw b81 rfl rfl rfl ?_; delta b81
  have hsg : signsV true = .slice .full [.str [42], .str [47], .str [37]] := rfl
  rw [hsg] at ha
  have q : decide (([42] : List UInt8) = [42]) = true := rfl
  have u1_0 : ∀ h x, upd h (c) x (p) = h (p) := fun h x => upd_ne h x (by omega)
  have u0_1 : ∀ h x, upd h (p) x (c) = h (c) := fun h x => upd_ne h x (by omega)
  have u2_0 : ∀ h x, upd h (a) x (p) = h (p) := fun h x => upd_ne h x (by omega)
  have u0_2 : ∀ h x, upd h (p) x (a) = h (a) := fun h x => upd_ne h x (by omega)
  have u2_1 : ∀ h x, upd h (a) x (c) = h (c) := fun h x => upd_ne h x (by omega)
  have u1_2 : ∀ h x, upd h (c) x (a) = h (a) := fun h x => upd_ne h x (by omega)
  have u3_0 : ∀ h x, upd h (b) x (p) = h (p) := fun h x => upd_ne h x (by omega)
  have u0_3 : ∀ h x, upd h (p) x (b) = h (b) := fun h x => upd_ne h x (by omega)
  have u3_1 : ∀ h x, upd h (b) x (c) = h (c) := fun h x => upd_ne h x (by omega)
  have u1_3 : ∀ h x, upd h (c) x (b) = h (b) := fun h x => upd_ne h x (by omega)
  have U0 : _ ∧ _ ∧ _ ∧ _ ∧ _ ∧ _ ∧ _ ∧ _ ∧ _ ∧ _ := ⟨u0_1, u0_2, u0_3, u1_0, u1_2, u1_3, u2_0, u2_1, u3_0, u3_1⟩
  simp -dsimp -implicitDefEqProofs only [go_sem, Nat.reduceAdd, Nat.reduceEqDiff, reduceIte, reduceCtorEq, Nat.reduceLeDiff, Nat.reduceLT, Nat.reduceSub, Int.reduceEq, Int.reduceLT, preH, OpK_alloc, ldCells, fillV, zeroN, zeroT, pcell, U0, hp, ha, hb, elemA, idx_slice_0, q]
  refine DoesK_of (hc _ _ _ (by first | exact hp | (simp only [U0, upd_same, hp]; done) | (simp only [U0, upd_same, hp]; rfl) | rfl) (by omega)) ?_
  rintro v st ⟨N1, H1, C1, rfl, f1, P1⟩
  have F1 : Fr h c H1 C1 [p] := by
   refine Fr.trans ?_ f1 (by simp)
   refine Fr.more (c1 := c) ?_ (by omega)
   repeat (first | exact (Fr.refl h c [p]) | refine Fr.upd (c1 := c) ?_ _ (by first | (right; omega) | (left; simp; done)) (Nat.le_refl _))
  have L1 := F1.le
  have M1 := f1.le
  have Z1_1 : H1 (c) = some (.cells zeroN) := (f1.at (by omega) (by simp; omega)).trans (by first | (simp only [U0, upd_same]; done) | rfl | (simp only [U0, upd_same]; rfl))
  obtain ⟨o1a, o1b, es1, rfl, E1⟩ := N1.inv
  simp -dsimp -implicitDefEqProofs only [go_sem, Nat.reduceAdd, Nat.reduceEqDiff, reduceIte, reduceCtorEq, Nat.reduceLeDiff, Nat.reduceLT, Nat.reduceSub, Int.reduceEq, Int.reduceLT, preH, OpK_alloc, ldCells, fillV, zeroN, zeroT, pcell, U0, P1, Z1_1]
  exact ⟨N1, _, _, rfl, (by
    refine Fr.more (c1 := C1) ?_ (by omega)
    repeat (first | exact F1 | refine Fr.upd (c1 := C1) ?_ _ (by first | (right; omega) | (left; simp; done)) (Nat.le_refl _))), (by first | exact P1 | (simp only [U0, upd_same, P1]; done) | (simp only [U0, upd_same, P1]; rfl) | rfl)⟩
 | false =>
  obtain ⟨hI, hc⟩ := (show ReadsA T p o 68 [signsV true] rn from hg) s n s' hi hr
  refine ⟨hI, fun h c d a b hp hpc hac hbc hap hbp ha hb => ?_⟩
  refine call_aw b81 rfl rfl rfl ?_; delta b81
  have hsg : signsV false = .slice .full [.str [43], .str [45], .str [94]] := rfl
  rw [hsg] at ha
  have q : decide (([43] : List UInt8) = [42]) = false := rfl
  have u1_0 : ∀ h x, upd h (c) x (p) = h (p) := fun h x => upd_ne h x (by omega)
  have u0_1 : ∀ h x, upd h (p) x (c) = h (c) := fun h x => upd_ne h x (by omega)
  have u2_0 : ∀ h x, upd h (a) x (p) = h (p) := fun h x => upd_ne h x (by omega)
  have u0_2 : ∀ h x, upd h (p) x (a) = h (a) := fun h x => upd_ne h x (by omega)
  have u2_1 : ∀ h x, upd h (a) x (c) = h (c) := fun h x => upd_ne h x (by omega)
  have u1_2 : ∀ h x, upd h (c) x (a) = h (a) := fun h x => upd_ne h x (by omega)
  have u3_0 : ∀ h x, upd h (b) x (p) = h (p) := fun h x => upd_ne h x (by omega)
  have u0_3 : ∀ h x, upd h (p) x (b) = h (b) := fun h x => upd_ne h x (by omega)
  have u3_1 : ∀ h x, upd h (b) x (c) = h (c) := fun h x => upd_ne h x (by omega)
  have u1_3 : ∀ h x, upd h (c) x (b) = h (b) := fun h x => upd_ne h x (by omega)
  have U1 : _ ∧ _ ∧ _ ∧ _ ∧ _ ∧ _ ∧ _ ∧ _ ∧ _ ∧ _ := ⟨u0_1, u0_2, u0_3, u1_0, u1_2, u1_3, u2_0, u2_1, u3_0, u3_1⟩
  simp -dsimp -implicitDefEqProofs only [go_sem, Nat.reduceAdd, Nat.reduceEqDiff, reduceIte, reduceCtorEq, Nat.reduceLeDiff, Nat.reduceLT, Nat.reduceSub, Int.reduceEq, Int.reduceLT, preH, OpK_alloc, ldCells, fillV, zeroN, zeroT, pcell, U1, hp, ha, hb, elemA, idx_slice_0, q, CondV_false, partsV]
  refine DoesK_of (hc _ _ _ (by first | exact hp | (simp only [U1, upd_same, hp]; done) | (simp only [U1, upd_same, hp]; rfl) | rfl) (by omega)) ?_
  rintro v st ⟨N1, H1, C1, rfl, f1, P1⟩
  have F1 : Fr h c H1 C1 [p] := by
   refine Fr.trans ?_ f1 (by simp)
   refine Fr.more (c1 := c) ?_ (by omega)
   repeat (first | exact (Fr.refl h c [p]) | refine Fr.upd (c1 := c) ?_ _ (by first | (right; omega) | (left; simp; done)) (Nat.le_refl _))
  have L1 := F1.le
  have M1 := f1.le
  have Z1_1 : H1 (c) = some (.cells zeroN) := (f1.at (by omega) (by simp; omega)).trans (by first | (simp only [U1, upd_same]; done) | rfl | (simp only [U1, upd_same]; rfl))
  obtain ⟨o1a, o1b, es1, rfl, E1⟩ := N1.inv
  simp -dsimp -implicitDefEqProofs only [go_sem, Nat.reduceAdd, Nat.reduceEqDiff, reduceIte, reduceCtorEq, Nat.reduceLeDiff, Nat.reduceLT, Nat.reduceSub, Int.reduceEq, Int.reduceLT, preH, OpK_alloc, ldCells, fillV, zeroN, zeroT, pcell, U1, P1, Z1_1]
  exact ⟨N1, _, _, rfl, (by
    refine Fr.more (c1 := C1) ?_ (by omega)
    repeat (first | exact F1 | refine Fr.upd (c1 := C1) ?_ _ (by first | (right; omega) | (left; simp; done)) (Nat.le_refl _))), (by first | exact P1 | (simp only [U1, upd_same, P1]; done) | (simp only [U1, upd_same, P1]; rfl) | rfl)⟩
end
section
variable {T : List Tok} {p : Nat} {o : Own}
set_option maxHeartbeats 8000000 in
theorem sums_reads (mul : Bool) {f : Nat} (hpt : ∀ m, m ≤ f → ReadsPt T p o mul (run T m (if mul then .app else .sums true))) : ReadsA T p o 68 [signsV mul] (run T (f + 1) (.sums mul)) := by
 intro s n s' hi hr
 rw [run_sums] at hr
 split at hr
 case h_2 => cases hr
 rename_i n1 s1 g1
 have loopI : ∀ (m : Nat) (nd : Nd) (s : PS), m ≤ f → Inv T s → run T m (.sumLoop mul nd) s = some (n, s') → s'.deep = s.deep ∧ Inv T s' := by
  intro m
  induction m with
  | zero => intro nd s _ _ h; cases h
  | succ m ih =>
   intro nd s hm hi h
   rw [run_sumLoop] at h
   split at h
   ·dsimp only at h
    split at h
    case h_2 => cases h
    rename_i n2 s2 g2
    obtain ⟨⟨d1, I1⟩, _⟩ := hpt m (by omega) _ _ _ hi.take g2
    obtain ⟨d2, I2⟩ := ih _ _ (by omega) I1 h
    exact ⟨by rw [d2, d1, take_deep], I2⟩
   ·injection h with h; injection h with h1 h2; subst h2; exact ⟨rfl, hi⟩
 obtain ⟨⟨d1, I1⟩, c1⟩ := hpt f (Nat.le_refl _) _ _ _ hi g1
 obtain ⟨d2, I2⟩ := loopI f _ _ (Nat.le_refl _) I1 hr
 refine ⟨⟨by rw [d2, d1], I2⟩, fun h c d hp hpc => ?_⟩
 refine call_aw b68 rfl rfl rfl ?_; delta b68
 obtain ⟨sg, hsg⟩ : ∃ sg, sg = (signsOf mul).map AV.str := ⟨_, rfl⟩
 have hsV : signsV mul = .slice .full sg := by rw [signsV, hsg]
 rw [hsV]
 have u1_0 : ∀ h x, upd h (c) x (p) = h (p) := fun h x => upd_ne h x (by omega)
 have u0_1 : ∀ h x, upd h (p) x (c) = h (c) := fun h x => upd_ne h x (by omega)
 have u2_0 : ∀ h x, upd h (c + 1) x (p) = h (p) := fun h x => upd_ne h x (by omega)
 have u0_2 : ∀ h x, upd h (p) x (c + 1) = h (c + 1) := fun h x => upd_ne h x (by omega)
 have u2_1 : ∀ h x, upd h (c + 1) x (c) = h (c) := fun h x => upd_ne h x (by omega)
 have u1_2 : ∀ h x, upd h (c) x (c + 1) = h (c + 1) := fun h x => upd_ne h x (by omega)
 have u3_0 : ∀ h x, upd h (c + 2) x (p) = h (p) := fun h x => upd_ne h x (by omega)
 have u0_3 : ∀ h x, upd h (p) x (c + 2) = h (c + 2) := fun h x => upd_ne h x (by omega)
 have u3_1 : ∀ h x, upd h (c + 2) x (c) = h (c) := fun h x => upd_ne h x (by omega)
 have u1_3 : ∀ h x, upd h (c) x (c + 2) = h (c + 2) := fun h x => upd_ne h x (by omega)
 have u3_2 : ∀ h x, upd h (c + 2) x (c + 1) = h (c + 1) := fun h x => upd_ne h x (by omega)
 have u2_3 : ∀ h x, upd h (c + 1) x (c + 2) = h (c + 2) := fun h x => upd_ne h x (by omega)
 have u4_0 : ∀ h x, upd h (c + 3) x (p) = h (p) := fun h x => upd_ne h x (by omega)
 have u0_4 : ∀ h x, upd h (p) x (c + 3) = h (c + 3) := fun h x => upd_ne h x (by omega)
 have u4_1 : ∀ h x, upd h (c + 3) x (c) = h (c) := fun h x => upd_ne h x (by omega)
 have u1_4 : ∀ h x, upd h (c) x (c + 3) = h (c + 3) := fun h x => upd_ne h x (by omega)
 have u4_2 : ∀ h x, upd h (c + 3) x (c + 1) = h (c + 1) := fun h x => upd_ne h x (by omega)
 have u2_4 : ∀ h x, upd h (c + 1) x (c + 3) = h (c + 3) := fun h x => upd_ne h x (by omega)
 have u4_3 : ∀ h x, upd h (c + 3) x (c + 2) = h (c + 2) := fun h x => upd_ne h x (by omega)
 have u3_4 : ∀ h x, upd h (c + 2) x (c + 3) = h (c + 3) := fun h x => upd_ne h x (by omega)
 have U0 : _ ∧ _ ∧ _ ∧ _ ∧ _ ∧ _ ∧ _ ∧ _ ∧ _ ∧ _ ∧ _ ∧ _ ∧ _ ∧ _ ∧ _ ∧ _ ∧ _ ∧ _ ∧ _ ∧ _ := ⟨u0_1, u0_2, u0_3, u0_4, u1_0, u1_2, u1_3, u1_4, u2_0, u2_1, u2_3, u2_4, u3_0, u3_1, u3_2, u3_4, u4_0, u4_1, u4_2, u4_3⟩
 simp -dsimp -implicitDefEqProofs only [go_sem, Nat.reduceAdd, Nat.reduceEqDiff, reduceIte, reduceCtorEq, Nat.reduceLeDiff, Nat.reduceLT, Nat.reduceSub, Int.reduceEq, Int.reduceLT, preH, OpK_alloc, ldCells, fillV, zeroN, zeroT, pcell, U0, hp, boxV]
 refine DoesK_of (c1 _ _ _ (c + 1) c (by first | exact hp | (simp only [U0, upd_same, hp]; done) | (simp only [U0, upd_same, hp]; rfl) | rfl) (by omega) (by omega) (by omega) (by omega) (by omega) (by simp only [U0, upd_same, hsV]) (by simp only [U0, upd_same, hsV])) ?_
 rintro v st ⟨N1, H1, C1, rfl, f1, P1⟩
 have F1 : Fr h c H1 C1 [p] := by
  refine Fr.trans ?_ f1 (by simp)
  refine Fr.more (c1 := c) ?_ (by omega)
  repeat (first | exact (Fr.refl h c [p]) | refine Fr.upd (c1 := c) ?_ _ (by first | (right; omega) | (left; simp; done)) (Nat.le_refl _))
 have L1 := F1.le
 have M1 := f1.le
 have Z1_1 : H1 (c) = some (.cells [.ptr p 0]) := (f1.at (by omega) (by simp; omega)).trans (by first | (simp only [U0, upd_same]; done) | rfl | (simp only [U0, upd_same]; rfl))
 have Z1_2 : H1 (c + 1) = some (.cells [.slice .full sg]) := (f1.at (by omega) (by simp; omega)).trans (by first | (simp only [U0, upd_same]; done) | rfl | (simp only [U0, upd_same]; rfl))
 have Z1_3 : H1 (c + 2) = some (.cells zeroN) := (f1.at (by omega) (by simp; omega)).trans (by first | (simp only [U0, upd_same]; done) | rfl | (simp only [U0, upd_same]; rfl))
 have Z1_4 : H1 (c + 3) = some (.cells zeroN) := (f1.at (by omega) (by simp; omega)).trans (by first | (simp only [U0, upd_same]; done) | rfl | (simp only [U0, upd_same]; rfl))
 obtain ⟨o1a, o1b, es1, rfl, E1⟩ := N1.inv
 have u5_0 : ∀ h x, upd h (C1) x (p) = h (p) := fun h x => upd_ne h x (by omega)
 have u0_5 : ∀ h x, upd h (p) x (C1) = h (C1) := fun h x => upd_ne h x (by omega)
 have u5_1 : ∀ h x, upd h (C1) x (c) = h (c) := fun h x => upd_ne h x (by omega)
 have u1_5 : ∀ h x, upd h (c) x (C1) = h (C1) := fun h x => upd_ne h x (by omega)
 have u5_2 : ∀ h x, upd h (C1) x (c + 1) = h (c + 1) := fun h x => upd_ne h x (by omega)
 have u2_5 : ∀ h x, upd h (c + 1) x (C1) = h (C1) := fun h x => upd_ne h x (by omega)
 have u5_3 : ∀ h x, upd h (C1) x (c + 2) = h (c + 2) := fun h x => upd_ne h x (by omega)
 have u3_5 : ∀ h x, upd h (c + 2) x (C1) = h (C1) := fun h x => upd_ne h x (by omega)
 have u5_4 : ∀ h x, upd h (C1) x (c + 3) = h (c + 3) := fun h x => upd_ne h x (by omega)
 have u4_5 : ∀ h x, upd h (c + 3) x (C1) = h (C1) := fun h x => upd_ne h x (by omega)
 have U1 : _ ∧ _ ∧ _ ∧ _ ∧ _ ∧ _ ∧ _ ∧ _ ∧ _ ∧ _ ∧ _ ∧ _ ∧ _ ∧ _ ∧ _ ∧ _ ∧ _ ∧ _ ∧ _ ∧ _ ∧ _ ∧ _ ∧ _ ∧ _ ∧ _ ∧ _ ∧ _ ∧ _ ∧ _ ∧ _ := ⟨u0_1, u0_2, u0_3, u0_4, u0_5, u1_0, u1_2, u1_3, u1_4, u1_5, u2_0, u2_1, u2_3, u2_4, u2_5, u3_0, u3_1, u3_2, u3_4, u3_5, u4_0, u4_1, u4_2, u4_3, u4_5, u5_0, u5_1, u5_2, u5_3, u5_4⟩
 simp -dsimp -implicitDefEqProofs only [go_sem, Nat.reduceAdd, Nat.reduceEqDiff, reduceIte, reduceCtorEq, Nat.reduceLeDiff, Nat.reduceLT, Nat.reduceSub, Int.reduceEq, Int.reduceLT, preH, OpK_alloc, ldCells, fillV, zeroN, zeroT, pcell, U1, P1, Z1_1, Z1_2, Z1_3, Z1_4]
 refine DoesK_of (look_call (o := o) (p := p) I1 (by first | exact P1 | (simp only [U1, upd_same, P1]; done) | (simp only [U1, upd_same, P1]; rfl) | rfl) (by omega)) ?_
 rintro v st ⟨rfl, H2, C2, rfl, f2, P2⟩
 have F2 : Fr h c H2 C2 [p] := by
  refine Fr.trans ?_ f2 (by simp)
  refine Fr.more (c1 := C1) ?_ (by omega)
  repeat (first | exact F1 | refine Fr.upd (c1 := C1) ?_ _ (by first | (right; omega) | (left; simp; done)) (Nat.le_refl _))
 have L2 := F2.le
 have M2 := f2.le
 have Z2_1 : H2 (c) = some (.cells [.ptr p 0]) := (f2.at (by omega) (by simp; omega)).trans (by first | (simp only [U1, upd_same, Z1_1]; done) | rfl | (simp only [U1, upd_same, Z1_1]; rfl))
 have Z2_2 : H2 (c + 1) = some (.cells [.slice .full sg]) := (f2.at (by omega) (by simp; omega)).trans (by first | (simp only [U1, upd_same, Z1_2]; done) | rfl | (simp only [U1, upd_same, Z1_2]; rfl))
 have Z2_3 : H2 (c + 2) = some (.cells zeroN) := (f2.at (by omega) (by simp; omega)).trans (by first | (simp only [U1, upd_same, Z1_3]; done) | rfl | (simp only [U1, upd_same, Z1_3]; rfl))
 have Z2_4 : H2 (c + 3) = some (.cells [.int .i64 n1.k, .str n1.t, .int .i64 n1.n, .int .i64 n1.a, .slice o1a (n1.ns.map AV.str), .slice o1b es1]) := (f2.at (by omega) (by simp; omega)).trans (by first | (simp only [U1, upd_same]; done) | rfl | (simp only [U1, upd_same]; rfl))
 have Z2_5 : H2 (C1) = some (.cells zeroT) := (f2.at (by omega) (by simp; omega)).trans (by first | (simp only [U1, upd_same]; done) | rfl | (simp only [U1, upd_same]; rfl))
 simp -dsimp -implicitDefEqProofs only [go_sem, Nat.reduceAdd, Nat.reduceEqDiff, reduceIte, reduceCtorEq, Nat.reduceLeDiff, Nat.reduceLT, Nat.reduceSub, Int.reduceEq, Int.reduceLT, preH, OpK_alloc, ldCells, fillV, zeroN, zeroT, pcell, U1, P2, Z2_1, Z2_2, Z2_3, Z2_4, Z2_5, tkV, tokC]
 let I : Nat → AEnv → ASt → Prop := fun m e st => ∃ (nd : Nd) (sk : PS) (a7 : Nat) (l : List AV) (H : Hp) (C : Nat), m ≤ f ∧ run T m (.sumLoop mul nd) sk = some (n, s') ∧ Inv T sk ∧ Fr h c H C [p] ∧ c + 4 ≤ a7 ∧ a7 < C ∧ H p = some (pcell o T sk) ∧ H c = some (.cells [.ptr p 0]) ∧ H (c + 1) = some (.cells [.slice .full sg]) ∧ H (c + 2) = some (.cells zeroN) ∧
   H (c + 3) = some (.cells l) ∧ NR nd (.agg l) ∧ H a7 = some (.cells [.int .i64 (look T sk).1.k, .str (look T sk).1.t, .int .i64 (look T sk).1.n, .int .i64 ((look T sk).2 : Int)]) ∧
   e.get 2 = .ptr c 0 ∧ e.get 3 = .ptr (c + 1) 0 ∧ e.get 4 = .ptr (c + 2) 0 ∧ e.get 5 = .func 81 [] [.ptr (c + 1) 0, .ptr c 0] ∧ e.get 6 = .ptr (c + 3) 0 ∧ e.get 7 = .ptr a7 0 ∧ st = ⟨H, C, []⟩
 refine LoopK_rule I f ⟨n1, s1, C1, _, _, _, Nat.le_refl _, hr, I1, (by
   refine Fr.more (c1 := C2) ?_ (by omega)
   repeat (first | exact F2 | refine Fr.upd (c1 := C2) ?_ _ (by first | (right; omega) | (left; simp; done)) (Nat.le_refl _))), by omega, by omega, (by first | exact P2 | (simp only [U1, upd_same, P2]; done) | (simp only [U1, upd_same, P2]; rfl) | rfl), (by simp only [U1, upd_same, Z2_1]), (by simp only [U1, upd_same, Z2_2]), (by simp only [U1, upd_same, Z2_3]), (by simp only [U1, upd_same, Z2_4]), N1, upd_same _ _ _, rfl, rfl, rfl, rfl, rfl, rfl, rfl⟩ ?_
 rintro m e st ⟨nd, sk, a7, l, H, C, hm, hrk, Ik, HF, ha7, ha7', HP, Zc, Zc1, Zc2, Zc3, HN, Z7, g2, g3, g4, g5, g6, g7, rfl⟩
 cases m with
 | zero => cases hrk
 | succ m =>
  rw [run_sumLoop] at hrk
  obtain ⟨oa, ob, es, hl, E⟩ := HN.inv
  injection hl with hl
  subst hl
  have hcC := HF.le
  have u1_0 : ∀ h x, upd h (c) x (p) = h (p) := fun h x => upd_ne h x (by omega)
  have u0_1 : ∀ h x, upd h (p) x (c) = h (c) := fun h x => upd_ne h x (by omega)
  have u2_0 : ∀ h x, upd h (c + 1) x (p) = h (p) := fun h x => upd_ne h x (by omega)
  have u0_2 : ∀ h x, upd h (p) x (c + 1) = h (c + 1) := fun h x => upd_ne h x (by omega)
  have u2_1 : ∀ h x, upd h (c + 1) x (c) = h (c) := fun h x => upd_ne h x (by omega)
  have u1_2 : ∀ h x, upd h (c) x (c + 1) = h (c + 1) := fun h x => upd_ne h x (by omega)
  have u3_0 : ∀ h x, upd h (c + 2) x (p) = h (p) := fun h x => upd_ne h x (by omega)
  have u0_3 : ∀ h x, upd h (p) x (c + 2) = h (c + 2) := fun h x => upd_ne h x (by omega)
  have u3_1 : ∀ h x, upd h (c + 2) x (c) = h (c) := fun h x => upd_ne h x (by omega)
  have u1_3 : ∀ h x, upd h (c) x (c + 2) = h (c + 2) := fun h x => upd_ne h x (by omega)
  have u3_2 : ∀ h x, upd h (c + 2) x (c + 1) = h (c + 1) := fun h x => upd_ne h x (by omega)
  have u2_3 : ∀ h x, upd h (c + 1) x (c + 2) = h (c + 2) := fun h x => upd_ne h x (by omega)
  have u4_0 : ∀ h x, upd h (c + 3) x (p) = h (p) := fun h x => upd_ne h x (by omega)
  have u0_4 : ∀ h x, upd h (p) x (c + 3) = h (c + 3) := fun h x => upd_ne h x (by omega)
  have u4_1 : ∀ h x, upd h (c + 3) x (c) = h (c) := fun h x => upd_ne h x (by omega)
  have u1_4 : ∀ h x, upd h (c) x (c + 3) = h (c + 3) := fun h x => upd_ne h x (by omega)
  have u4_2 : ∀ h x, upd h (c + 3) x (c + 1) = h (c + 1) := fun h x => upd_ne h x (by omega)
  have u2_4 : ∀ h x, upd h (c + 1) x (c + 3) = h (c + 3) := fun h x => upd_ne h x (by omega)
  have u4_3 : ∀ h x, upd h (c + 3) x (c + 2) = h (c + 2) := fun h x => upd_ne h x (by omega)
  have u3_4 : ∀ h x, upd h (c + 2) x (c + 3) = h (c + 3) := fun h x => upd_ne h x (by omega)
  have u5_0 : ∀ h x, upd h (a7) x (p) = h (p) := fun h x => upd_ne h x (by omega)
  have u0_5 : ∀ h x, upd h (p) x (a7) = h (a7) := fun h x => upd_ne h x (by omega)
  have u5_1 : ∀ h x, upd h (a7) x (c) = h (c) := fun h x => upd_ne h x (by omega)
  have u1_5 : ∀ h x, upd h (c) x (a7) = h (a7) := fun h x => upd_ne h x (by omega)
  have u5_2 : ∀ h x, upd h (a7) x (c + 1) = h (c + 1) := fun h x => upd_ne h x (by omega)
  have u2_5 : ∀ h x, upd h (c + 1) x (a7) = h (a7) := fun h x => upd_ne h x (by omega)
  have u5_3 : ∀ h x, upd h (a7) x (c + 2) = h (c + 2) := fun h x => upd_ne h x (by omega)
  have u3_5 : ∀ h x, upd h (c + 2) x (a7) = h (a7) := fun h x => upd_ne h x (by omega)
  have u5_4 : ∀ h x, upd h (a7) x (c + 3) = h (c + 3) := fun h x => upd_ne h x (by omega)
  have u4_5 : ∀ h x, upd h (c + 3) x (a7) = h (a7) := fun h x => upd_ne h x (by omega)
  have U2 : _ ∧ _ ∧ _ ∧ _ ∧ _ ∧ _ ∧ _ ∧ _ ∧ _ ∧ _ ∧ _ ∧ _ ∧ _ ∧ _ ∧ _ ∧ _ ∧ _ ∧ _ ∧ _ ∧ _ ∧ _ ∧ _ ∧ _ ∧ _ ∧ _ ∧ _ ∧ _ ∧ _ ∧ _ ∧ _ := ⟨u0_1, u0_2, u0_3, u0_4, u0_5, u1_0, u1_2, u1_3, u1_4, u1_5, u2_0, u2_1, u2_3, u2_4, u2_5, u3_0, u3_1, u3_2, u3_4, u3_5, u4_0, u4_1, u4_2, u4_3, u4_5, u5_0, u5_1, u5_2, u5_3, u5_4⟩
  cases k5 : decide ((look T sk).1.k = 5)
  ·rw [if_neg (fun e => by simp [e.1] at k5)] at hrk
   injection hrk with hrk; injection hrk with r1 r2
   subst r1; subst r2
   simp -dsimp -implicitDefEqProofs only [go_sem, Nat.reduceAdd, Nat.reduceEqDiff, reduceIte, reduceCtorEq, Nat.reduceLeDiff, Nat.reduceLT, Nat.reduceSub, Int.reduceEq, Int.reduceLT, preH, OpK_alloc, ldCells, fillV, zeroN, zeroT, pcell, U2, HP, Zc, Zc1, Zc2, Zc3, Z7, g2, g3, g4, g5, g6, g7, k5]
   exact ⟨HN, _, _, rfl, (by
     refine Fr.more (c1 := C) ?_ (by omega)
     repeat (first | exact HF | refine Fr.upd (c1 := C) ?_ _ (by first | (right; omega) | (left; simp; done)) (Nat.le_refl _))), (by first | exact HP | (simp only [U2, upd_same, HP]; done) | (simp only [U2, upd_same, HP]; rfl) | rfl)⟩
  ·simp -dsimp -implicitDefEqProofs only [go_sem, Nat.reduceAdd, Nat.reduceEqDiff, reduceIte, reduceCtorEq, Nat.reduceLeDiff, Nat.reduceLT, Nat.reduceSub, Int.reduceEq, Int.reduceLT, preH, OpK_alloc, ldCells, fillV, zeroN, zeroT, pcell, U2, HP, Zc, Zc1, Zc2, Zc3, Z7, g2, g3, g4, g5, g6, g7, k5]
   have hsc := scontains_call (signsOf mul) (by cases mul <;> decide) .full (look T sk).1.t
   rw [← hsg] at hsc
   refine DoesK_of (hsc _) ?_
   rintro v st ⟨rfl, rfl⟩
   cases hin : decide ((look T sk).1.t ∈ signsOf mul)
   ·rw [if_neg (fun e => by simp [e.2] at hin)] at hrk
    injection hrk with hrk; injection hrk with r1 r2
    subst r1; subst r2
    simp -dsimp -implicitDefEqProofs only [go_sem, Nat.reduceAdd, Nat.reduceEqDiff, reduceIte, reduceCtorEq, Nat.reduceLeDiff, Nat.reduceLT, Nat.reduceSub, Int.reduceEq, Int.reduceLT, preH, OpK_alloc, ldCells, fillV, zeroN, zeroT, pcell, U2, HP, Zc, Zc1, Zc2, Zc3, Z7, g2, g3, g4, g5, g6, g7, k5]
    exact ⟨HN, _, _, rfl, (by
      refine Fr.more (c1 := C) ?_ (by omega)
      repeat (first | exact HF | refine Fr.upd (c1 := C) ?_ _ (by first | (right; omega) | (left; simp; done)) (Nat.le_refl _))), (by first | exact HP | (simp only [U2, upd_same, HP]; done) | (simp only [U2, upd_same, HP]; rfl) | rfl)⟩
   ·have hcond : (look T sk).1.k = 5 ∧ (look T sk).1.t ∈ signsOf mul := ⟨by simpa using k5, by simpa using hin⟩
    rw [if_pos hcond] at hrk
    dsimp only at hrk
    split at hrk
    case h_2 => cases hrk
    rename_i n2 s2 q2
    obtain ⟨⟨e1, J1⟩, e2⟩ := hpt m (by omega) _ _ _ Ik.take q2
    simp -dsimp -implicitDefEqProofs only [go_sem, Nat.reduceAdd, Nat.reduceEqDiff, reduceIte, reduceCtorEq, Nat.reduceLeDiff, Nat.reduceLT, Nat.reduceSub, Int.reduceEq, Int.reduceLT, preH, OpK_alloc, ldCells, fillV, zeroN, zeroT, pcell, U2, HP, Zc, Zc1, Zc2, Zc3, Z7, g2, g3, g4, g5, g6, g7, k5]
    refine DoesK_of (take_call (o := o) (p := p) Ik (by first | exact HP | (simp only [U2, upd_same, HP]; done) | (simp only [U2, upd_same, HP]; rfl) | rfl) (by omega)) ?_
    rintro v st ⟨rfl, H11, C11, rfl, f11, P11⟩
    have F11 : Fr h c H11 C11 [p] := by
     refine Fr.trans ?_ f11 (by simp)
     refine Fr.more (c1 := C) ?_ (by omega)
     repeat (first | exact HF | refine Fr.upd (c1 := C) ?_ _ (by first | (right; omega) | (left; simp; done)) (Nat.le_refl _))
    have L11 := F11.le
    have M11 := f11.le
    have Z11_1 : H11 (c) = some (.cells [.ptr p 0]) := (f11.at (by omega) (by simp; omega)).trans (by first | (simp only [U2, upd_same, Zc]; done) | rfl | (simp only [U2, upd_same, Zc]; rfl))
    have Z11_2 : H11 (c + 1) = some (.cells [.slice .full sg]) := (f11.at (by omega) (by simp; omega)).trans (by first | (simp only [U2, upd_same, Zc1]; done) | rfl | (simp only [U2, upd_same, Zc1]; rfl))
    have Z11_3 : H11 (c + 2) = some (.cells zeroN) := (f11.at (by omega) (by simp; omega)).trans (by first | (simp only [U2, upd_same, Zc2]; done) | rfl | (simp only [U2, upd_same, Zc2]; rfl))
    have Z11_4 : H11 (c + 3) = some (.cells [.int .i64 nd.k, .str nd.t, .int .i64 nd.n, .int .i64 nd.a, .slice oa (nd.ns.map AV.str), .slice ob es]) := (f11.at (by omega) (by simp; omega)).trans (by first | (simp only [U2, upd_same, Zc3]; done) | rfl | (simp only [U2, upd_same, Zc3]; rfl))
    have Z11_5 : H11 (a7) = some (.cells [.int .i64 (look T sk).1.k, .str (look T sk).1.t, .int .i64 (look T sk).1.n, .int .i64 ((look T sk).2 : Int)]) := (f11.at (by omega) (by simp; omega)).trans (by first | (simp only [U2, upd_same, Z7]; done) | rfl | (simp only [U2, upd_same, Z7]; rfl))
    simp -dsimp -implicitDefEqProofs only [go_sem, Nat.reduceAdd, Nat.reduceEqDiff, reduceIte, reduceCtorEq, Nat.reduceLeDiff, Nat.reduceLT, Nat.reduceSub, Int.reduceEq, Int.reduceLT, preH, OpK_alloc, ldCells, fillV, zeroN, zeroT, pcell, U2, P11, Z11_1, Z11_2, Z11_3, Z11_4, Z11_5, g2, g3, g4, g5, g6, g7, k5, Aw_region1, OpsK_some1, OpsK_none1, OpsK_guard1, maskOf, List.flatMap_cons, List.flatMap_nil]
    refine DoesK_of (e2 _ _ _ (c + 1) c (by first | exact P11 | (simp only [U2, upd_same, P11]; done) | (simp only [U2, upd_same, P11]; rfl) | rfl) (by omega) (by omega) (by omega) (by omega) (by omega) (by rw [hsV]; first | exact Z11_2 | (simp only [U2, upd_same, Z11_2]; done)) (by first | exact Z11_1 | (simp only [U2, upd_same, Z11_1]; done))) ?_
    rintro v st ⟨N12, H12, C12, rfl, f12, P12⟩
    have F12 : Fr h c H12 C12 [p] := by
     refine Fr.trans ?_ f12 (by simp)
     refine Fr.more (c1 := C11) ?_ (by omega)
     repeat (first | exact F11 | refine Fr.upd (c1 := C11) ?_ _ (by first | (right; omega) | (left; simp; done)) (Nat.le_refl _))
    have L12 := F12.le
    have M12 := f12.le
    have Z12_1 : H12 (c) = some (.cells [.ptr p 0]) := (f12.at (by omega) (by simp; omega)).trans (by first | (simp only [U2, upd_same, Z11_1]; done) | rfl | (simp only [U2, upd_same, Z11_1]; rfl))
    have Z12_2 : H12 (c + 1) = some (.cells [.slice .full sg]) := (f12.at (by omega) (by simp; omega)).trans (by first | (simp only [U2, upd_same, Z11_2]; done) | rfl | (simp only [U2, upd_same, Z11_2]; rfl))
    have Z12_3 : H12 (c + 2) = some (.cells zeroN) := (f12.at (by omega) (by simp; omega)).trans (by first | (simp only [U2, upd_same, Z11_3]; done) | rfl | (simp only [U2, upd_same, Z11_3]; rfl))
    have Z12_4 : H12 (c + 3) = some (.cells [.int .i64 nd.k, .str nd.t, .int .i64 nd.n, .int .i64 nd.a, .slice oa (nd.ns.map AV.str), .slice ob es]) := (f12.at (by omega) (by simp; omega)).trans (by first | (simp only [U2, upd_same, Z11_4]; done) | rfl | (simp only [U2, upd_same, Z11_4]; rfl))
    have Z12_5 : H12 (a7) = some (.cells [.int .i64 (look T sk).1.k, .str (look T sk).1.t, .int .i64 (look T sk).1.n, .int .i64 ((look T sk).2 : Int)]) := (f12.at (by omega) (by simp; omega)).trans (by first | (simp only [U2, upd_same, Z11_5]; done) | rfl | (simp only [U2, upd_same, Z11_5]; rfl))
    obtain ⟨o12a, o12b, es12, rfl, E12⟩ := N12.inv
    simp -dsimp -implicitDefEqProofs only [go_sem, Nat.reduceAdd, Nat.reduceEqDiff, reduceIte, reduceCtorEq, Nat.reduceLeDiff, Nat.reduceLT, Nat.reduceSub, Int.reduceEq, Int.reduceLT, preH, OpK_alloc, ldCells, fillV, zeroN, zeroT, pcell, U2, P12, Z12_1, Z12_2, Z12_3, Z12_4, Z12_5, g2, g3, g4, g5, g6, g7, k5, Aw_region1, OpsK_some1, OpsK_none1, OpsK_guard1, maskOf, List.flatMap_cons, List.flatMap_nil, partsV]
    refine DoesK_of (node_call 13 _ _ .full _ _ _ _) ?_
    rintro v st ⟨rfl, H13, C13, rfl, f13⟩
    have F13 : Fr h c H13 C13 [p] := by
     refine Fr.trans ?_ f13 (by simp)
     refine Fr.more (c1 := C12) ?_ (by omega)
     repeat (first | exact F12 | refine Fr.upd (c1 := C12) ?_ _ (by first | (right; omega) | (left; simp; done)) (Nat.le_refl _))
    have L13 := F13.le
    have M13 := f13.le
    have P13 : H13 p = _ := (f13.at (by omega) (by simp)).trans (by first | exact P12 | (simp only [U2, upd_same, P12]; rfl))
    have Z13_1 : H13 (c) = some (.cells [.ptr p 0]) := (f13.at (by omega) (by simp)).trans (by first | (simp only [U2, upd_same, Z12_1]; done) | rfl | (simp only [U2, upd_same, Z12_1]; rfl))
    have Z13_2 : H13 (c + 1) = some (.cells [.slice .full sg]) := (f13.at (by omega) (by simp)).trans (by first | (simp only [U2, upd_same, Z12_2]; done) | rfl | (simp only [U2, upd_same, Z12_2]; rfl))
    have Z13_3 : H13 (c + 2) = some (.cells zeroN) := (f13.at (by omega) (by simp)).trans (by first | (simp only [U2, upd_same, Z12_3]; done) | rfl | (simp only [U2, upd_same, Z12_3]; rfl))
    have Z13_4 : H13 (c + 3) = some (.cells [.int .i64 nd.k, .str nd.t, .int .i64 nd.n, .int .i64 nd.a, .slice oa (nd.ns.map AV.str), .slice ob es]) := (f13.at (by omega) (by simp)).trans (by first | (simp only [U2, upd_same, Z12_4]; done) | rfl | (simp only [U2, upd_same, Z12_4]; rfl))
    have Z13_5 : H13 (a7) = some (.cells [.int .i64 (look T sk).1.k, .str (look T sk).1.t, .int .i64 (look T sk).1.n, .int .i64 ((look T sk).2 : Int)]) := (f13.at (by omega) (by simp)).trans (by first | (simp only [U2, upd_same, Z12_5]; done) | rfl | (simp only [U2, upd_same, Z12_5]; rfl))
    simp -dsimp -implicitDefEqProofs only [go_sem, Nat.reduceAdd, Nat.reduceEqDiff, reduceIte, reduceCtorEq, Nat.reduceLeDiff, Nat.reduceLT, Nat.reduceSub, Int.reduceEq, Int.reduceLT, preH, OpK_alloc, ldCells, fillV, zeroN, zeroT, pcell, U2, P13, Z13_1, Z13_2, Z13_3, Z13_4, Z13_5, g2, g3, g4, g5, g6, g7, k5, Aw_region1, OpsK_some1, OpsK_none1, OpsK_guard1, maskOf, List.flatMap_cons, List.flatMap_nil]
    simp only [List.contains_cons, List.contains_nil, Nat.reduceBEq, Bool.or_false, Bool.or_true, Bool.false_or, Bool.true_or, Bool.false_eq_true, if_true, if_false, opKey, ldKey, ev_tmp, get_cons, Nat.reduceEqDiff, reduceIte, Stable_cons, Stable_nil, List.forall_mem_cons, and_true, true_and]
    refine ⟨by simp [g6, g7, Z11_4, Z12_4, Z11_5, Z12_5], ?_⟩
    have u6_0 : ∀ h x, upd h (C13) x (p) = h (p) := fun h x => upd_ne h x (by omega)
    have u0_6 : ∀ h x, upd h (p) x (C13) = h (C13) := fun h x => upd_ne h x (by omega)
    have u6_1 : ∀ h x, upd h (C13) x (c) = h (c) := fun h x => upd_ne h x (by omega)
    have u1_6 : ∀ h x, upd h (c) x (C13) = h (C13) := fun h x => upd_ne h x (by omega)
    have u6_2 : ∀ h x, upd h (C13) x (c + 1) = h (c + 1) := fun h x => upd_ne h x (by omega)
    have u2_6 : ∀ h x, upd h (c + 1) x (C13) = h (C13) := fun h x => upd_ne h x (by omega)
    have u6_3 : ∀ h x, upd h (C13) x (c + 2) = h (c + 2) := fun h x => upd_ne h x (by omega)
    have u3_6 : ∀ h x, upd h (c + 2) x (C13) = h (C13) := fun h x => upd_ne h x (by omega)
    have u6_4 : ∀ h x, upd h (C13) x (c + 3) = h (c + 3) := fun h x => upd_ne h x (by omega)
    have u4_6 : ∀ h x, upd h (c + 3) x (C13) = h (C13) := fun h x => upd_ne h x (by omega)
    have u6_5 : ∀ h x, upd h (C13) x (a7) = h (a7) := fun h x => upd_ne h x (by omega)
    have u5_6 : ∀ h x, upd h (a7) x (C13) = h (C13) := fun h x => upd_ne h x (by omega)
    have U3 : _ ∧ _ ∧ _ ∧ _ ∧ _ ∧ _ ∧ _ ∧ _ ∧ _ ∧ _ ∧ _ ∧ _ ∧ _ ∧ _ ∧ _ ∧ _ ∧ _ ∧ _ ∧ _ ∧ _ ∧ _ ∧ _ ∧ _ ∧ _ ∧ _ ∧ _ ∧ _ ∧ _ ∧ _ ∧ _ ∧ _ ∧ _ ∧ _ ∧ _ ∧ _ ∧ _ ∧ _ ∧ _ ∧ _ ∧ _ ∧ _ ∧ _ := ⟨u0_1, u0_2, u0_3, u0_4, u0_5, u0_6, u1_0, u1_2, u1_3, u1_4, u1_5, u1_6, u2_0, u2_1, u2_3, u2_4, u2_5, u2_6, u3_0, u3_1, u3_2, u3_4, u3_5, u3_6, u4_0, u4_1, u4_2, u4_3, u4_5, u4_6, u5_0, u5_1, u5_2, u5_3, u5_4, u5_6, u6_0, u6_1, u6_2, u6_3, u6_4, u6_5⟩
    simp -dsimp -implicitDefEqProofs only [go_sem, Nat.reduceAdd, Nat.reduceEqDiff, reduceIte, reduceCtorEq, Nat.reduceLeDiff, Nat.reduceLT, Nat.reduceSub, Int.reduceEq, Int.reduceLT, preH, OpK_alloc, ldCells, fillV, zeroN, zeroT, pcell, U3, P13, Z13_1, Z13_2, Z13_3, Z13_5, g2, g3, g4, g5, g6, g7, k5]
    refine DoesK_of (look_call (o := o) (p := p) J1 (by first | exact P13 | (simp only [U3, upd_same, P13]; done) | (simp only [U3, upd_same, P13]; rfl) | rfl) (by omega)) ?_
    rintro v st ⟨rfl, H14, C14, rfl, f14, P14⟩
    have F14 : Fr h c H14 C14 [p] := by
     refine Fr.trans ?_ f14 (by simp)
     refine Fr.more (c1 := C13) ?_ (by omega)
     repeat (first | exact F13 | refine Fr.upd (c1 := C13) ?_ _ (by first | (right; omega) | (left; simp; done)) (Nat.le_refl _))
    have L14 := F14.le
    have M14 := f14.le
    have Z14_1 : H14 (c) = some (.cells [.ptr p 0]) := (f14.at (by omega) (by simp; omega)).trans (by first | (simp only [U3, upd_same, Z13_1]; done) | rfl | (simp only [U3, upd_same, Z13_1]; rfl))
    have Z14_2 : H14 (c + 1) = some (.cells [.slice .full sg]) := (f14.at (by omega) (by simp; omega)).trans (by first | (simp only [U3, upd_same, Z13_2]; done) | rfl | (simp only [U3, upd_same, Z13_2]; rfl))
    have Z14_3 : H14 (c + 2) = some (.cells zeroN) := (f14.at (by omega) (by simp; omega)).trans (by first | (simp only [U3, upd_same, Z13_3]; done) | rfl | (simp only [U3, upd_same, Z13_3]; rfl))
    have Z14_4 : H14 (c + 3) = some (.cells [.int .i64 13, .str (look T sk).1.t, .int .i64 0, .int .i64 nd.a, .slice .full [], .slice .full [.agg [.int .i64 nd.k, .str nd.t, .int .i64 nd.n, .int .i64 nd.a, .slice oa (nd.ns.map AV.str), .slice ob es], .agg [.int .i64 n2.k, .str n2.t, .int .i64 n2.n, .int .i64 n2.a, .slice o12a (n2.ns.map AV.str), .slice o12b es12]]]) := (f14.at (by omega) (by simp; omega)).trans (by first | (simp only [U3, upd_same]; done) | rfl | (simp only [U3, upd_same]; rfl))
    have Z14_5 : H14 (a7) = some (.cells [.int .i64 (look T sk).1.k, .str (look T sk).1.t, .int .i64 (look T sk).1.n, .int .i64 ((look T sk).2 : Int)]) := (f14.at (by omega) (by simp; omega)).trans (by first | (simp only [U3, upd_same, Z13_5]; done) | rfl | (simp only [U3, upd_same, Z13_5]; rfl))
    have Z14_6 : H14 (C13) = some (.cells [.int .i64 (look T sk).1.k, .str (look T sk).1.t, .int .i64 (look T sk).1.n, .int .i64 ((look T sk).2 : Int)]) := (f14.at (by omega) (by simp; omega)).trans (by first | (simp only [U3, upd_same]; done) | rfl | (simp only [U3, upd_same]; rfl))
    simp -dsimp -implicitDefEqProofs only [go_sem, Nat.reduceAdd, Nat.reduceEqDiff, reduceIte, reduceCtorEq, Nat.reduceLeDiff, Nat.reduceLT, Nat.reduceSub, Int.reduceEq, Int.reduceLT, preH, OpK_alloc, ldCells, fillV, zeroN, zeroT, pcell, U3, P14, Z14_1, Z14_2, Z14_3, Z14_4, Z14_5, Z14_6, g2, g3, g4, g5, g6, g7, k5, tkV, tokC]
    refine Again.of m (by omega) ⟨node 13 nd.a (look T sk).1.t [nd, n2], s2, C13, [.int .i64 13, .str (look T sk).1.t, .int .i64 0, .int .i64 nd.a, .slice .full [], .slice .full [.agg [.int .i64 nd.k, .str nd.t, .int .i64 nd.n, .int .i64 nd.a, .slice oa (nd.ns.map AV.str), .slice ob es], .agg [.int .i64 n2.k, .str n2.t, .int .i64 n2.n, .int .i64 n2.a, .slice o12a (n2.ns.map AV.str), .slice o12b es12]]], _, _, by omega, hrk, J1, (by
      refine Fr.more (c1 := C14) ?_ (by omega)
      repeat (first | exact F14 | refine Fr.upd (c1 := C14) ?_ _ (by first | (right; omega) | (left; simp; done)) (Nat.le_refl _))), by omega, by omega, (by first | exact P14 | (simp only [U3, upd_same, P14]; done) | (simp only [U3, upd_same, P14]; rfl) | rfl), (by first | exact Z14_1 | (simp only [U3, upd_same, Z14_1]; done)), (by first | exact Z14_2 | (simp only [U3, upd_same, Z14_2]; done)), (by first | exact Z14_3 | (simp only [U3, upd_same, Z14_3]; done)), (by first | exact Z14_4 | (simp only [U3, upd_same, Z14_4]; done)), .mk rfl ((NRs.one HN).app (NRs.one N12)).2, upd_same _ _ _, g2, g3, g4, g5, g6, rfl, rfl⟩
end
end Go.Proofs.YtdohdncgjendkaaDoor
