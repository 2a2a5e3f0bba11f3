/- Regions in any order. Regions in any order: the run. Code: what the model does is what the abstract machine says. Calls: what the model does is what the abstract machine says. Fuel, and what holds behind a run. Words and rules by which runs of the abstract machine are reckoned. Frames; rows that are appended to. The rules by which runs are reckoned, as a set. Deferred calls; rows that are appended to, whole ones too. From what the abstract machine says of a law to the law's row. -/
import Derived.Test.YtdohdncgjendkaaDoorEB
import Derived.LoopN
import Derived.Tactics
import Derived.HandedShaped
import Derived.ProofKit
import Derived.LaidMore
import Derived.OpenShut
import Derived.Stop.Joined
import Derived.ChangeSame
set_option linter.unusedVariables false
set_option linter.unusedSimpArgs false
namespace Go.Proofs.YtdohdncgjendkaaDoor.Abs
open Go.RowKit
/-! ### What must be ahead -/
theorem ancsFrom_pre : ∀ (l : List Oper) (acc : List (List Nat)) (k : Nat), k < acc.length → (ancsFrom l acc).getD k [] = acc.getD k []
 | [], acc, k, _ => rfl
 | o :: l, acc, k, h => by
  simp only [ancsFrom]
  rw [ancsFrom_pre l _ k (by simp; omega)]
  simp only [List.getD_eq_getElem?_getD]
  rw [List.getElem?_append_left h]
theorem ancsFrom_at : ∀ (l : List Oper) (acc : List (List Nat)) (j : Nat) (o : Oper) (i : Nat), l[j]? = some o → i ∈ (ancsFrom l acc).getD (acc.length + j) [] →
  i ∈ edgesOf o ∨ ∃ k ∈ edgesOf o, i ∈ (ancsFrom l acc).getD k []
 | [], acc, j, o, i, h, _ => by simp at h
 | x :: l, acc, 0, o, i, h, hi => by
  simp only [List.getElem?_cons_zero, Option.some.injEq] at h
  subst h
  simp only [ancsFrom, Nat.add_zero] at hi ⊢
  rw [ancsFrom_pre l _ acc.length (by simp)] at hi
  simp only [List.getD_eq_getElem?_getD] at hi
  rw [List.getElem?_append_right (Nat.le_refl _)] at hi
  simp only [Nat.sub_self, List.getElem?_cons_zero, Option.getD_some, List.mem_eraseDups, List.mem_append, List.mem_flatMap] at hi
  rcases hi with hi | ⟨k, hk, hi⟩
  ·exact .inl hi
  ·refine .inr ⟨k, hk, ?_⟩
   have hlt : k < acc.length := by
    rcases Nat.lt_or_ge k acc.length with h' | h'
    ·exact h'
    ·rw [List.getElem?_eq_none h'] at hi; simp at hi
   rw [ancsFrom_pre l _ k (by simp; omega)]
   simp only [List.getD_eq_getElem?_getD]
   rw [List.getElem?_append_left hlt]
   exact hi
 | x :: l, acc, j + 1, o, i, h, hi => by
  simp only [ancsFrom] at hi ⊢
  refine ancsFrom_at l _ j o i (by simpa using h) ?_
  rw [List.length_append]
  simpa [Nat.add_assoc, Nat.add_comm 1 j] using hi
theorem anc_spec {ops : List Oper} {j : Nat} {o : Oper} {i : Nat} (h : ops[j]? = some o) (hi : anc (ancsFrom ops []) j i = true) :
  i ∈ edgesOf o ∨ ∃ k ∈ edgesOf o, anc (ancsFrom ops []) k i = true := by
 unfold anc at *
 simp only [List.contains_iff_mem] at hi ⊢
 exact ancsFrom_at ops [] j o i h (by simpa using hi)
structure DrawOK (ops : Array Oper) (l : List AOper) (A : List (List Nat)) : Prop where
 edge : ∀ (j : Nat) (o : Oper), ops[j]? = some o → ∀ i ∈ edgesOf o, i < j
 anc : ∀ (j : Nat) (o : Oper), ops[j]? = some o → ∀ i, anc A j i = true → i ∈ edgesOf o ∨ ∃ k ∈ edgesOf o, anc A k i = true
 pair : ∀ (i j : Nat) (a b : AOper), i < j → l[i]? = some a → l[j]? = some b → pairOK A i j a b = true
theorem drawOK_spec {ops : Array Oper} {l : List AOper} (hl : l.length = ops.size) (h : drawOK (ancsFrom ops.toList []) ops.toList l = true) : DrawOK ops l (ancsFrom ops.toList []) := by
 simp only [drawOK, List.all_eq_true, List.mem_range, Bool.and_eq_true] at h
 refine ⟨fun j o hj i hi => ?_, fun j o hj i hi => anc_spec (by simpa using hj) hi, fun i j a b hij ha hb => ?_⟩
 ·have hlt := lt_of_get hj
  have := (h j (by omega)).1
  rw [show ops.toList[j]? = some o from by simpa using hj] at this
  simp only [List.all_eq_true, decide_eq_true_eq] at this
  exact this i hi
 ·have hlt : j < l.length := by
   rcases Nat.lt_or_ge j l.length with h' | h'
   ·exact h'
   ·rw [List.getElem?_eq_none h'] at hb; cases hb
  have := (h j hlt).2 i hij
  rw [ha, hb] at this
  exact this
theorem DrawOK.anc_lt {ops : Array Oper} {l : List AOper} {A : List (List Nat)} (h : DrawOK ops l A) : ∀ (j i : Nat), j < ops.size → Abs.anc A j i = true → i < j := by
 intro j
 induction j using Nat.strongRecOn with
 | _ j ih =>
  intro i hj hi
  have ho : ops[j]? = some ops[j] := Array.getElem?_eq_getElem hj
  rcases h.anc j _ ho i hi with h1 | ⟨k, h1, h2⟩
  ·exact h.edge j _ ho i h1
  ·have := h.edge j _ ho k h1
   have := ih k this i (by omega) h2
   omega
/-! ### The slots -/
def Wr (l : List AOper) (i t : Nat) : Prop := ∃ o, l[i]? = some o ∧ o.dst = some t
theorem Wr.uniq {ops : Array Oper} {l : List AOper} {A : List (List Nat)} (h : DrawOK ops l A) {i j t : Nat} (hi : Wr l i t) (hj : Wr l j t) : i = j := by
 have key : ∀ i j, Wr l i t → Wr l j t → i < j → False := by
  rintro i j ⟨o, h1, h2⟩ ⟨p, h3, h4⟩ hij
  have := h.pair i j o p hij h1 h3
  unfold pairOK at this
  rw [h2, h4] at this
  simp at this
 rcases Nat.lt_trichotomy i j with h' | h' | h'
 ·exact (key i j hi hj h').elim
 ·exact h'
 ·exact (key j i hj hi h').elim
theorem put_get (e : AEnv) (dst : Option Nat) (v : AV) (t : Nat) : (e.put dst v).get t = if dst = some t then v else e.get t := by
 cases dst with
 | none => simp [AEnv.put]
 | some d => simp [get_put]
section
variable {call : Caller} {b : Nat} {ops : Array Oper} {l : List AOper} {A : List (List Nat)} {E : Nat → AEnv} {S : Nat → ASt} {V : Nat → AV} {logs : List Log}
theorem Trace.keepE (ht : Trace call b l 0 E S V logs) {p : Nat} {t : Nat} : ∀ {q : Nat}, p ≤ q → q ≤ l.length → (∀ i, p ≤ i → i < q → ¬ Wr l i t) → (E q).get t = (E p).get t := by
 intro q
 induction q with
 | zero => intro h _ _; rw [show p = 0 from by omega]
 | succ q ih =>
  intro h hq hw
  rcases Nat.lt_or_ge p (q + 1) with h' | h'
  ·have hlt : q < l.length := hq
   obtain ⟨_, h2, _⟩ := ht q _ (List.getElem?_eq_getElem hlt)
   rw [h2, put_get, if_neg (fun he => hw q (by omega) (by omega) ⟨_, List.getElem?_eq_getElem hlt, he⟩)]
   exact ih (by omega) (by omega) fun i h1 h2 => hw i h1 (by omega)
  ·rw [show p = q + 1 from by omega]
theorem Trace.valE (hd : DrawOK ops l A) (ht : Trace call b l 0 E S V logs) {i q t : Nat} (hi : Wr l i t) (hiq : i < q) (hq : q ≤ l.length) : (E q).get t = V i := by
 obtain ⟨o, h1, h2⟩ := hi
 rw [ht.keepE (p := i + 1) (by omega) hq fun j h3 h4 hj => by have := Wr.uniq hd ⟨o, h1, h2⟩ hj; omega]
 rw [(ht i o h1).2.1, put_get, if_pos h2]
/-- The slots, when these operations are done. -/
noncomputable def dEnv (l : List AOper) (D : Nat → Prop) (e0 ef : AEnv) : AEnv :=
 open Classical in
 ((List.range l.length).filterMap fun j => if D j then (l[j]?).bind fun o => o.dst.map fun d => (d, ef.get d) else none) ++ e0
theorem get_append (ef e0 : AEnv) (t : Nat) : ∀ (m : AEnv), (∀ p ∈ m, p.2 = ef.get p.1) → ((∃ p ∈ m, p.1 = t) → AEnv.get (m ++ e0) t = ef.get t) ∧ ((∀ p ∈ m, p.1 ≠ t) → AEnv.get (m ++ e0) t = e0.get t)
 | [], _ => ⟨fun ⟨p, h, _⟩ => by simp at h, fun _ => rfl⟩
 | (d, v) :: m, h => by
  obtain ⟨h1, h2⟩ := get_append ef e0 t m fun p hp => h p (List.mem_cons_of_mem _ hp)
  have hv : v = ef.get d := h (d, v) List.mem_cons_self
  constructor
  ·intro hx
   simp only [List.cons_append, AEnv.get]
   by_cases e1 : d = t
   ·rw [if_pos e1, hv, e1]
   ·rw [if_neg e1]
    refine h1 ?_
    obtain ⟨p, hp, hpt⟩ := hx
    rcases List.mem_cons.1 hp with rfl | hp
    ·exact absurd hpt e1
    ·exact ⟨p, hp, hpt⟩
  ·intro hx
   simp only [List.cons_append, AEnv.get]
   rw [if_neg (hx (d, v) List.mem_cons_self)]
   exact h2 fun p hp => hx p (List.mem_cons_of_mem _ hp)
theorem dEnv_mem {D : Nat → Prop} {ef : AEnv} {p : Nat × AV} : (p ∈ ((List.range l.length).filterMap fun j => open Classical in if D j then (l[j]?).bind fun o => o.dst.map fun d => (d, ef.get d) else none)) ↔ ∃ j, D j ∧ Wr l j p.1 ∧ p.2 = ef.get p.1 := by
 simp only [List.mem_filterMap, List.mem_range]
 constructor
 ·rintro ⟨j, hj, h⟩
  split at h
  ·rename_i hD
   simp only [Option.bind_eq_some_iff, Option.map_eq_some_iff] at h
   obtain ⟨o, h1, d, h2, rfl⟩ := h
   exact ⟨j, hD, ⟨o, h1, h2⟩, rfl⟩
  ·cases h
 ·rintro ⟨j, hD, ⟨o, h1, h2⟩, h3⟩
  refine ⟨j, ?_, ?_⟩
  ·rcases Nat.lt_or_ge j l.length with h' | h'
   ·exact h'
   ·rw [List.getElem?_eq_none h'] at h1; cases h1
  ·rw [if_pos hD, h1]
   simp only [Option.bind_some, h2, Option.map_some]
   rw [← h3]
theorem dEnv_in {D : Nat → Prop} {e0 ef : AEnv} {i t : Nat} (hD : D i) (hw : Wr l i t) : (dEnv l D e0 ef).get t = ef.get t :=
 (get_append ef e0 t _ fun p hp => (dEnv_mem.1 hp).elim fun _ h => h.2.2).1 ⟨(t, ef.get t), dEnv_mem.2 ⟨i, hD, hw, rfl⟩, rfl⟩
theorem dEnv_out {D : Nat → Prop} {e0 ef : AEnv} {t : Nat} (h : ∀ i, D i → ¬ Wr l i t) : (dEnv l D e0 ef).get t = e0.get t :=
 (get_append ef e0 t _ fun p hp => (dEnv_mem.1 hp).elim fun _ h => h.2.2).2 fun p hp he => by
  obtain ⟨j, h1, h2, _⟩ := dEnv_mem.1 hp
  exact h j h1 (he ▸ h2)
/-- An operation sees in these slots what it sees in the order of the text. -/
theorem dEnv_agree (hd : DrawOK ops l A) (ht : Trace call b l 0 E S V logs) {D : Nat → Prop} (hcl : ∀ i j, j < ops.size → D j → anc A j i = true → D i) (hDn : ∀ j, D j → j < ops.size) {j : Nat} {o : AOper} (hj : l[j]? = some o) (hn : ¬ D j)
  (hanc : ∀ i, anc A j i = true → D i) : Agree (E j) (dEnv l D (E 0) (E l.length)) o.reads := by
 have hlt : j < l.length := by
  rcases Nat.lt_or_ge j l.length with h' | h'
  ·exact h'
  ·rw [List.getElem?_eq_none h'] at hj; cases hj
 intro t hr
 by_cases hw : ∃ i, Wr l i t
 ·obtain ⟨i, hi⟩ := hw
  obtain ⟨p, hp, hpd⟩ := id hi
  have hil : i < l.length := by
   rcases Nat.lt_or_ge i l.length with h' | h'
   ·exact h'
   ·rw [List.getElem?_eq_none h'] at hp; cases hp
  rcases Nat.lt_trichotomy i j with h | h | h
  ·have hpk := hd.pair i j p o h hp hj
   have hD : D i := by
    refine hanc i ?_
    unfold pairOK at hpk
    rw [hpd] at hpk
    simp only [Bool.and_eq_true, Bool.or_eq_true] at hpk
    rcases hpk.1.1.1 with h1 | h1
    ·simp [hr] at h1
    ·exact h1
   rw [dEnv_in hD hi, ht.valE hd hi h (by omega), ht.valE hd hi hil (Nat.le_refl _)]
  ·rw [dEnv_out fun k hk hwk => by have := Wr.uniq hd hi hwk; subst this; subst h; exact hn hk]
   exact ht.keepE (Nat.zero_le _) (by omega) fun k h1 h2 hk => by have := Wr.uniq hd hi hk; omega
  ·have hpk := hd.pair j i o p h hj hp
   have ha : anc A i j = true := by
    unfold pairOK at hpk
    rw [hpd] at hpk
    simp only [Bool.and_eq_true, Bool.or_eq_true] at hpk
    rcases hpk.1.2 with h1 | h1
    ·simp [hr] at h1
    ·exact h1
   rw [dEnv_out fun k hk hwk => by have := Wr.uniq hd hi hwk; subst this; exact hn (hcl j i (hDn i hk) hk ha)]
   exact ht.keepE (Nat.zero_le _) (by omega) fun k h1 h2 hk => by have := Wr.uniq hd hi hk; omega
 ·rw [dEnv_out fun k _ hk => hw ⟨k, hk⟩]
  exact ht.keepE (Nat.zero_le _) (by omega) fun k h1 h2 hk => hw ⟨k, hk⟩
theorem dEnv_put (hd : DrawOK ops l A) (ht : Trace call b l 0 E S V logs) {D D' : Nat → Prop} {j : Nat} {o : AOper} (hj : l[j]? = some o) (hD' : ∀ i, D' i ↔ D i ∨ i = j) (t : Nat) :
  (dEnv l D' (E 0) (E l.length)).get t = ((dEnv l D (E 0) (E l.length)).put o.dst (V j)).get t := by
 have hlt : j < l.length := by
  rcases Nat.lt_or_ge j l.length with h' | h'
  ·exact h'
  ·rw [List.getElem?_eq_none h'] at hj; cases hj
 rw [put_get]
 split
 ·rename_i he
  have hw : Wr l j t := ⟨o, hj, he⟩
  rw [dEnv_in ((hD' j).2 (.inr rfl)) hw, ht.valE hd hw hlt (Nat.le_refl _)]
 ·rename_i he
  by_cases hw : ∃ i, D i ∧ Wr l i t
  ·obtain ⟨i, h1, h2⟩ := hw
   rw [dEnv_in h1 h2, dEnv_in ((hD' i).2 (.inl h1)) h2]
  ·rw [dEnv_out fun i h1 h2 => hw ⟨i, h1, h2⟩, dEnv_out fun i h1 h2 => ?_]
   rcases (hD' i).1 h1 with h1 | rfl
   ·exact hw ⟨i, h1, h2⟩
   ·obtain ⟨p, hp, hpd⟩ := h2
    rw [hj] at hp; injection hp with hp; subst hp
    exact he hpd
theorem dEnv_all (ht : Trace call b l 0 E S V logs) {D : Nat → Prop} (hD : ∀ j, j < l.length → D j) (t : Nat) : (dEnv l D (E 0) (E l.length)).get t = (E l.length).get t := by
 by_cases hw : ∃ i, Wr l i t
 ·obtain ⟨i, hi⟩ := hw
  refine dEnv_in (hD i ?_) hi
  obtain ⟨p, hp, _⟩ := hi
  rcases Nat.lt_or_ge i l.length with h' | h'
  ·exact h'
  ·rw [List.getElem?_eq_none h'] at hp; cases hp
 ·rw [dEnv_out fun i _ h => hw ⟨i, h⟩]
  exact (ht.keepE (Nat.zero_le _) (Nat.le_refl _) fun k _ _ hk => hw ⟨k, hk⟩).symm
/-! ### The states -/
/-- Where nothing is turned, the state stays; where an object is not turned, it stays. -/
theorem Trace.keepS (ht : Trace call b l 0 E S V logs) {p : Nat} : ∀ {q : Nat}, p ≤ q → q ≤ l.length → (∀ i o, p ≤ i → i < q → l[i]? = some o → o.op.turns = false) → S q = S p := by
 intro q
 induction q with
 | zero => intro h _ _; rw [show p = 0 from by omega]
 | succ q ih =>
  intro h hq hw
  rcases Nat.lt_or_ge p (q + 1) with h' | h'
  ·have hlt : q < l.length := hq
   have hg := List.getElem?_eq_getElem hlt
   obtain ⟨h1, _, _⟩ := ht q _ hg
   have hh : S (q + 1) = S q := stepV_turnless (hw q _ (by omega) (by omega) hg) h1
   rw [hh]
   exact ih (by omega) (by omega) fun i o h1 h2 => hw i o h1 (by omega)
  ·rw [show p = q + 1 from by omega]
theorem Trace.keepH (ht : Trace call b l 0 E S V logs) {k p : Nat} : ∀ {q : Nat}, p ≤ q → q ≤ l.length → (∀ i o, p ≤ i → i < q → l[i]? = some o → o.op.turns = true → (S i).heap k = (S (i + 1)).heap k) → (S q).heap k = (S p).heap k := by
 intro q
 induction q with
 | zero => intro h _ _; rw [show p = 0 from by omega]
 | succ q ih =>
  intro h hq hw
  rcases Nat.lt_or_ge p (q + 1) with h' | h'
  ·have hlt : q < l.length := hq
   have hg := List.getElem?_eq_getElem hlt
   obtain ⟨h1, _, _⟩ := ht q _ hg
   have : (S (q + 1)).heap k = (S q).heap k := by
    cases ht2 : (l[q]).op.turns with
    | false =>
     have := stepV_turnless ht2 h1
     simp only at this
     rw [this]
    | true => exact (hw q _ (by omega) (by omega) hg ht2).symm
   rw [this]
   exact ih (by omega) (by omega) fun i o h1 h2 => hw i o h1 (by omega)
  ·rw [show p = q + 1 from by omega]
end
theorem countP_lt {α : Type} {p q : α → Bool} (hpq : ∀ x, q x = true → p x = true) : ∀ {l : List α} {i : α}, i ∈ l → p i = true → q i = false → l.countP q < l.countP p
 | x :: l, i, hi, hp, hq => by
  have hle : l.countP q ≤ l.countP p := List.countP_mono_left fun y _ => hpq y
  rcases List.mem_cons.1 hi with rfl | hi
  ·rw [List.countP_cons_of_pos hp, List.countP_cons_of_neg (by simp [hq])]
   omega
  ·have := countP_lt hpq hi hp hq
   cases hx : q x with
   | true => rw [List.countP_cons_of_pos hx, List.countP_cons_of_pos (hpq x hx)]; omega
   | false =>
    rw [List.countP_cons_of_neg (by simp [hx])]
    rw [List.countP_cons]
    omega
/-- So many are not listed. -/
def unl (n : Nat) (listed : Array Bool) : Nat := (List.range n).countP fun j => !listed.getD j true
section
variable {P : Program} {nt B : Nat} {w0 : World} {call : Caller} {b : Nat} {ops : Array Oper} {l : List AOper} {A : List (List Nat)} {E : Nat → AEnv} {S : Nat → ASt} {V : Nat → AV} {logs : List Log}
/-- What holds when the operations of D are done. -/
structure DInv (P : Program) (nt B : Nat) (w0 : World) (b : Nat) (ops : Array Oper) (l : List AOper) (A : List (List Nat)) (E : Nat → AEnv) (S : Nat → ASt) (G0 : Gh) (D : Nat → Prop) (p : Nat) (G : Gh) (a : Act) (w : World) : Prop where
 le : p ≤ l.length
 turn : ∀ j o, l[j]? = some o → o.op.turns = true → (D j ↔ j < p)
 rel : Rel nt B w0 G (dEnv l D (E 0) (E l.length)) (S p) a w
 own : Owns b l G (S p) D
 closed : ∀ i j, j < ops.size → D j → anc A j i = true → D i
 gle : G0.Le G
 keep : G0.Keep b none G
theorem Rel.congr {G : Gh} {e e' : AEnv} {s : ASt} {a : Act} {w : World} (h : Rel nt B w0 G e s a w) (he : ∀ t, e'.get t = e.get t) : Rel nt B w0 G e' s a w :=
 ⟨h.sim, fun t => by rw [he]; exact h.opd t, h.dfr, h.size, h.old⟩
theorem mem_edges {o : Oper} {x : Edge} (hx : x ∈ o.after) (hb : Region.binds .any x = true) : x.on ∈ edgesOf o := by
 unfold edgesOf
 exact List.mem_map.2 ⟨x, List.mem_filter.2 ⟨by simpa using hx, hb⟩, rfl⟩
theorem open_mem {i j : Nat} {x y : AOper} (hx : l[i]? = some x) (hy : l[j]? = some y) (h1 : x.op.looks = true) (h2 : y.op.turns = true) (h3 : anc A i j = false) (h4 : anc A j i = false) : (i, j) ∈ openPairs A l := by
 have hi : i < l.length := by
  rcases Nat.lt_or_ge i l.length with h' | h'
  ·exact h'
  ·rw [List.getElem?_eq_none h'] at hx; cases hx
 have hj : j < l.length := by
  rcases Nat.lt_or_ge j l.length with h' | h'
  ·exact h'
  ·rw [List.getElem?_eq_none h'] at hy; cases hy
 unfold openPairs
 rw [List.mem_flatMap]
 refine ⟨i, List.mem_range.2 hi, ?_⟩
 rw [List.mem_filterMap]
 refine ⟨j, List.mem_range.2 hj, ?_⟩
 simp only [hx, hy, h1, h2, h3, h4]
 rfl
/-- One more operation. -/
theorem draw_step (hcall : CallOK P B w0 call) (hR : RegOK P nt ops l) (hd : DrawOK ops l A) (ht : Trace call b l 0 E S V logs) (hst : Stable (openPairs A l) logs) (hb : b ≤ (S 0).ctr) {Q : Exit → Act → World → Prop} {G0 G : Gh} {D D' : Nat → Prop} {p : Nat} {a : Act} {w : World}
  (h : DInv P nt B w0 b ops l A E S G0 D p G a w) (hDn : ∀ j, D j → j < ops.size) {j : Nat} (hj : j < ops.size) (hnj : ¬ D j) (hanc : ∀ i, anc A j i = true → D i) (hD' : ∀ i, D' i ↔ D i ∨ i = j) {K : Act → World → Prop}
  (hK : ∀ p' G' a' w', DInv P nt B w0 b ops l A E S G0 D' p' G' a' w' → K a' w') : wpOp P ops Q j K a w := by
 obtain ⟨o, ao, k, h1, h2, h3⟩ := hR.get hj
 have hjl : j < l.length := by rw [hR.len]; exact hj
 obtain ⟨t1, t2, t3⟩ := ht j ao h2
 have hag := dEnv_agree hd ht h.closed hDn h2 hnj hanc
 have hclosed : ∀ i k, k < ops.size → D' k → anc A k i = true → D' i := by
  intro i k hk h5 h6
  rcases (hD' k).1 h5 with h5 | rfl
  ·exact (hD' i).2 (.inl (h.closed i k hk h5 h6))
  ·exact (hD' i).2 (.inl (hanc i h6))
 have hbp : b ≤ (S p).ctr := Nat.le_trans hb (ht.le hcall (Nat.zero_le p) h.le)
 have hDD : ∀ i, ¬ D' i → ¬ D i ∧ i ≠ j := fun i hi => ⟨fun hx => hi ((hD' i).2 (.inl hx)), fun hx => hi ((hD' i).2 (.inr hx))⟩
 cases htu : ao.op.turns with
 | true =>
  have hpj : p ≤ j := by
   rcases Nat.lt_or_ge j p with h' | h'
   ·exact absurd ((h.turn j ao h2 htu).2 h') hnj
   ·exact h'
  have hno : ∀ i y, p ≤ i → i < j → l[i]? = some y → y.op.turns = false := by
   intro i y hi hij hy
   cases hyt : y.op.turns with
   | false => rfl
   | true =>
    have hp := hd.pair i j y ao hij hy h2
    unfold pairOK at hp
    simp only [hyt, htu, Bool.and_self, Bool.not_true, Bool.false_or, Bool.and_eq_true] at hp
    have := (h.turn i y hy hyt).1 (hanc i hp.2)
    omega
  have hS : S j = S p := ht.keepS hpj (by omega) hno
  refine step_sound hcall h1 h3 h.rel (fun n hn => h.own j ao n h2 hnj hn) (e1 := (dEnv l D (E 0) (E l.length)).put ao.dst (V j)) (s1 := S (j + 1)) ?_ ?_
  ·rw [stepOp_eq, ← hS, ← stepV_congr hag, t1]; rfl
  ·intro a' w' G' hle hkp hrel
   refine hK (j + 1) G' a' w' ⟨by omega, ?_, hrel.congr (dEnv_put hd ht h2 hD'), ?_, hclosed, h.gle.trans hle, h.keep.trans (keep_below (l := l) (i := j) (s := S p) hkp hbp)⟩
   ·intro i y hy hyt
    constructor
    ·intro hi
     rcases (hD' i).1 hi with hi | rfl
     ·have := (h.turn i y hy hyt).1 hi; omega
     ·omega
    ·intro hi
     rcases Nat.lt_or_ge i j with h' | h'
     ·rcases Nat.lt_or_ge i p with h'' | h''
      ·exact (hD' i).2 (.inl ((h.turn i y hy hyt).2 h''))
      ·rw [hno i y h'' h' hy] at hyt; cases hyt
     ·exact (hD' i).2 (.inr (by omega))
   ·refine Owns.step hR.nums h.own h2 hkp ?_ hDD
    rw [← hS]
    exact stepV_ctr hcall t1
 | false =>
  have hkey : ∀ k, stepKey b ao (E j) = some k → (S j).heap k = (S p).heap k := by
   intro k hk
   have hlk : ao.op.looks = true := by
    unfold stepKey at hk
    split at hk
    ·exact (opKey_looks hk).1
    ·cases hk
   have one : ∀ i y, l[i]? = some y → y.op.turns = true → anc A i j = false → anc A j i = false → (S i).heap k = (S (i + 1)).heap k := by
    intro i y hy hyt h5 h6
    have hm := open_mem (A := A) h2 hy hlk hyt h6 h5
    have t4 := (ht i y hy).2.2
    have := hst (j, i) hm _ t3 (by simp) k hk _ t4 (by simp)
    exact this
   rcases Nat.le_total p j with h' | h'
   ·refine ht.keepH h' (by omega) fun i y hi hij hy hyt => one i y hy hyt ?_ ?_
    ·cases hx : anc A i j with
     | false => rfl
     | true => have := hd.anc_lt i j (by omega) hx; omega
    ·cases hx : anc A j i with
     | false => rfl
     | true => have := (h.turn i y hy hyt).1 (hanc i hx); omega
   ·refine (ht.keepH h' h.le fun i y hi hij hy hyt => one i y hy hyt ?_ ?_).symm
    ·cases hx : anc A i j with
     | false => rfl
     | true => exact absurd (h.closed j i (by rw [← hR.len]; have := h.le; omega) ((h.turn i y hy hyt).2 hij) hx) hnj
    ·cases hx : anc A j i with
     | false => rfl
     | true => have := hd.anc_lt j i hj hx; omega
  obtain ⟨t5, t6⟩ := stepV_v htu hag hkey t1
  refine step_sound hcall h1 h3 h.rel (fun n hn => h.own j ao n h2 hnj hn) (e1 := (dEnv l D (E 0) (E l.length)).put ao.dst (V j)) (s1 := S p) ?_ ?_
  ·rw [stepOp_eq, t5]; rfl
  ·intro a' w' G' hle hkp hrel
   refine hK p G' a' w' ⟨h.le, ?_, hrel.congr (dEnv_put hd ht h2 hD'), Owns.step hR.nums h.own h2 hkp (Nat.le_refl _) hDD, hclosed, h.gle.trans hle, h.keep.trans (keep_below (l := l) (i := j) (s := S p) hkp hbp)⟩
   intro i y hy hyt
   rw [hD', ← h.turn i y hy hyt]
   constructor
   ·rintro (hi | rfl)
    ·exact hi
    ·rw [h2] at hy; injection hy with hy; subst hy; rw [htu] at hyt; cases hyt
   ·exact .inl
theorem unl_zero {n : Nat} {listed : Array Bool} (h : unl n listed = 0) {j : Nat} (hj : j < n) : listed.getD j true = true := by
 unfold unl at h
 rw [List.countP_eq_zero] at h
 have := h j (List.mem_range.2 hj)
 simpa using this
theorem getD_both {listed : Array Bool} {j : Nat} (hj : j < listed.size) : listed.getD j true = listed.getD j false := by
 simp [hj]
/-- Any order. -/
theorem draw_sound (hcall : CallOK P B w0 call) (hR : RegOK P nt ops l) (hd : DrawOK ops l A) (ht : Trace call b l 0 E S V logs) (hst : Stable (openPairs A l) logs) (hb : b ≤ (S 0).ctr) {Q : Exit → Act → World → Prop} {G0 : Gh}
  (hK : Next P nt B w0 G0 b none (E l.length) (S l.length) (Q .normal)) : ∀ (fuel : Nat) (listed : Array Bool) (p : Nat) (G : Gh) (a : Act) (w : World), listed.size = ops.size → unl ops.size listed ≤ fuel →
   DInv P nt B w0 b ops l A E S G0 (fun j => listed.getD j false = true) p G a w → wpAny P .any ops Q fuel listed a w := by
 have done : ∀ (listed : Array Bool) (p : Nat) (G : Gh) (a : Act) (w : World), listed.size = ops.size → (∀ j, j < ops.size → listed.getD j false = true) →
   DInv P nt B w0 b ops l A E S G0 (fun j => listed.getD j false = true) p G a w → Q .normal a w := by
  intro listed p G a w hs hall h
  refine hK a w G h.gle h.keep ?_
  have hS : S l.length = S p := by
   refine ht.keepS h.le (Nat.le_refl _) fun i y hi hil hy => ?_
   cases hyt : y.op.turns with
   | false => rfl
   | true => have := (h.turn i y hy hyt).1 (hall i (by rw [← hR.len]; exact hil)); omega
  rw [hS]
  exact h.rel.congr fun t => (dEnv_all ht (fun j hj => hall j (by rw [← hR.len]; exact hj)) t).symm
 have ready : ∀ (listed : Array Bool), listed.size = ops.size → Region.ready .any ops listed = [] → ∀ j, j < ops.size → listed.getD j false = true := by
  intro listed hs hr j
  induction j using Nat.strongRecOn with
  | _ j ih =>
   intro hj
   cases hx : listed.getD j false with
   | true => rfl
   | false =>
    have : j ∈ Region.ready .any ops listed := by
     rw [mem_ready]
     refine ⟨by rw [getD_both (by omega)]; exact hx, ops[j], Array.getElem?_eq_getElem hj, fun e he hbd => ?_⟩
     have := hd.edge j _ (Array.getElem?_eq_getElem hj) _ (mem_edges he hbd)
     exact ih _ this (by omega)
    rw [hr] at this
    cases this
 intro fuel
 induction fuel with
 | zero =>
  intro listed p G a w hs hu h
  have hall : ∀ j, j < ops.size → listed.getD j false = true := fun j hj => by
   rw [← getD_both (by omega)]
   exact unl_zero (Nat.le_zero.1 hu) hj
  refine ⟨?_, done listed p G a w hs hall h⟩
  cases hr : Region.ready .any ops listed with
  | nil => rfl
  | cons j r =>
   have : j ∈ Region.ready .any ops listed := by rw [hr]; exact List.mem_cons_self
   obtain ⟨h1, o, h2, _⟩ := mem_ready.1 this
   have hj := lt_of_get h2
   rw [getD_both (by omega), hall j hj] at h1
   cases h1
 | succ fuel ih =>
  intro listed p G a w hs hu h
  refine ⟨fun hr => done listed p G a w hs (ready listed hs hr) h, fun j hj => ?_⟩
  obtain ⟨h1, o, h2, h3⟩ := mem_ready.1 hj
  have hjn := lt_of_get h2
  have hnj : ¬ listed.getD j false = true := by rw [← getD_both (by omega), h1]; simp
  refine draw_step hcall hR hd ht hst hb h (D' := fun i => (listed.setIfInBounds j true).getD i false = true) (fun i hi => ?_) hjn hnj (fun i hi => ?_) (fun i => ?_) fun p' G' a' w' hI => ?_
  ·rcases Nat.lt_or_ge i listed.size with h' | h'
   ·omega
   ·simp [Array.getElem?_eq_none h'] at hi
  ·have edges : ∀ k ∈ edgesOf o, listed.getD k false = true := by
    intro k hk
    unfold edgesOf at hk
    simp only [List.mem_map, List.mem_filter] at hk
    obtain ⟨x, ⟨hx, hbd⟩, rfl⟩ := hk
    exact h3 x (by simpa using hx) hbd
   rcases hd.anc j o h2 i hi with h4 | ⟨k, h4, h5⟩
   ·exact edges i h4
   ·exact h.closed i k (by have := hd.edge j o h2 k h4; omega) (edges k h4) h5
  ·constructor
   ·intro hi
    by_cases hij : j = i
    ·exact .inr hij.symm
    ·rw [getD_set_ne false hij] at hi; exact .inl hi
   ·rintro (hi | rfl)
    ·exact getD_set_true hi
    ·have hjs : i < listed.size := by omega
     simp [hjs]
  ·refine ih _ p' G' a' w' (by simp [hs]) ?_ hI
   have : unl ops.size (listed.setIfInBounds j true) < unl ops.size listed := by
    refine countP_lt (fun x hx => ?_) (List.mem_range.2 hjn) (by rw [h1]; rfl) ?_
    ·by_cases hjx : j = x
     ·subst hjx; rw [h1]; rfl
     ·rw [getD_set_ne true hjx] at hx; exact hx
    ·have hjs : j < listed.size := by omega
     simp [hjs]
   omega
theorem region_any (hm : P.follows .mixedOrders = true) (hcall : CallOK P B w0 call) {id : Nat} (hR : RegOK P nt ops l) (hd : DrawOK ops l A) {G : Gh} {e : AEnv} {s : ASt} {a : Act} {w : World} (h : Rel nt B w0 G e s a w) {e' : AEnv} {s' : ASt} {pre : List (Nat × List AV)}
  (hr : runOps call s.ctr l 0 e (s.enter (ownSum l) pre) = some (e', s', logs)) (hst : Stable (openPairs A l) logs) {Q : Exit → Act → World → Prop} (hK : Next P nt B w0 G s.ctr none e' s' (Q .normal)) : (Code.region id ops true).wp P Q a w := by
 obtain ⟨E, S, V, h1, h2, h3, h4, ht⟩ := runOps_trace hr
 refine wp_region_any hm ?_
 have hrep : ∀ j, (Array.replicate ops.size false).getD j false = false := by
  intro j
  by_cases hj : j < ops.size <;> simp [hj]
 refine draw_sound hcall hR hd ht hst (b := s.ctr) (by rw [h2]; exact Sim.ctr_le_enter _ _) (G0 := G) (by rw [h3, h4]; exact hK) ops.size _ 0 G a _ (by simp) ?_ ?_
 ·unfold unl
  exact Nat.le_trans (List.countP_le_length) (by simp)
 ·refine ⟨Nat.zero_le _, fun j o _ _ => by simp only [hrep]; simp, ?_, ?_, fun i j _ hD => (by simp only [hrep] at hD; exact absurd hD (by simp)), .refl G, .refl G _ _⟩
  ·refine Rel.congr (e := e) (by rw [h2]; exact (h.enter _ _).drew) fun t => ?_
   rw [dEnv_out fun i hi => (by simp only [hrep] at hi; exact absurd hi (by simp)), h1]
  ·rw [h2]
   exact Owns.enter hR.nums h.sim pre _
end
def AExit.exit_ : AExit → Exit
 | .normal => .normal
 | .exit id => .exit id
 | .ret => .ret
section
variable {P : Program} {nt B : Nat} {w0 : World} {call : Caller}
theorem runOps_ctr (hcall : CallOK P B w0 call) {b : Nat} {l : List AOper} {i : Nat} {e e' : AEnv} {s s' : ASt} {logs : List Log} (h : runOps call b l i e s = some (e', s', logs)) : s.ctr ≤ s'.ctr := by
 obtain ⟨E, S, V, _, h2, _, h4, ht⟩ := runOps_trace h
 rw [← h2, ← h4]
 exact ht.le hcall (Nat.zero_le _) (Nat.le_refl _)
theorem arun_ctr (hcall : CallOK P B w0 call) : ∀ (n : Nat) (c : ACode) (e : AEnv) (s : ASt) (x : AExit) (e' : AEnv) (s' : ASt), arun call n c e s = some (x, e', s') → s.ctr ≤ s'.ctr := by
 intro n
 induction n with
 | zero => intro c e s x e' s' h; simp [arun] at h
 | succ n ih =>
  intro c e s x e' s' h
  cases c <;> simp only [arun] at h
  case skip => injection h with h; injection h with h1 h; injection h with h2 h3; subst h3; exact Nat.le_refl _
  case exit => injection h with h; injection h with h1 h; injection h with h2 h3; subst h3; exact Nat.le_refl _
  case ret => injection h with h; injection h with h1 h; injection h with h2 h3; subst h3; exact Nat.le_refl _
  case region na pre ops pairs =>
   split at h
   ·rename_i e1 s1 l hr
    split at h
    ·injection h with h; injection h with h1 h; injection h with h2 h3; subst h3
     exact Nat.le_trans (Sim.ctr_le_enter na pre) (runOps_ctr hcall hr)
    ·cases h
   ·cases h
  case seq a b =>
   split at h
   ·rename_i e1 s1 hr
    exact Nat.le_trans (ih a e s _ e1 s1 hr) (ih b e1 s1 x e' s' h)
   ·exact ih a e s x e' s' h
  case cond y a b =>
   split at h
   ·exact ih _ e s x e' s' h
   ·cases h
  case block id b =>
   split at h
   ·rename_i id' e1 s1 hr
    have := ih b e s _ e1 s1 hr
    split at h
    ·injection h with h; injection h with h1 h; injection h with h2 h3; subst h3; exact this
    ·injection h with h; injection h with h1 h; injection h with h2 h3; subst h3; exact this
   ·exact ih b e s x e' s' h
  case loop b =>
   split at h
   ·rename_i e1 s1 hr
    exact Nat.le_trans (ih b e s _ e1 s1 hr) (ih (.loop b) e1 s1 x e' s' h)
   ·exact ih b e s x e' s' h
  case scope b => exact ih b e s x e' s' h
theorem Next.of {G G1 : Gh} {n n1 : Nat} {e : AEnv} {s : ASt} {K : Act → World → Prop} (h : Next P nt B w0 G n none e s K) (hle : G.Le G1) (hk : G.Keep n none G1) (hn : n ≤ n1) : Next P nt B w0 G1 n1 none e s K :=
 fun a w G' h1 h2 h3 => h a w G' (hle.trans h1) (hk.trans fun i hi ho hf => h2 i (by omega) ho hf) h3
theorem arun_sound (hm : P.follows .mixedOrders = true) (hcall : CallOK P B w0 call) : ∀ (n : Nat) (c : Code) (ac : ACode) (G : Gh) (e : AEnv) (s : ASt) (a : Act) (w : World) (x : AExit) (e' : AEnv) (s' : ASt) (Q : Exit → Act → World → Prop),
  compile P nt c = some ac → Rel nt B w0 G e s a w → arun call n ac e s = some (x, e', s') → Next P nt B w0 G s.ctr none e' s' (Q x.exit_) → c.wp P Q a w := by
 intro n
 induction n using Nat.strongRecOn with
 | _ n IH =>
  intro c ac G e s a w x e' s' Q hc h hr hK
  cases n with
  | zero => simp [arun] at hr
  | succ n =>
   have ih := IH n (Nat.lt_succ_self n)
   have now : ∀ {x' : AExit}, (some (x', e, s) : Option (AExit × AEnv × ASt)) = some (x, e', s') → Q x'.exit_ a w := by
    intro x' h'
    injection h' with h'; injection h' with h1 h'; injection h' with h2 h3
    subst h1; subst h2; subst h3
    exact hK a w G (.refl G) (.refl G _ _) h
   cases c <;> simp only [compile] at hc <;> try (cases hc; done)
   case skip => injection hc with hc; subst hc; exact wp_skip (now hr)
   case label => injection hc with hc; subst hc; exact wp_label (now hr)
   case exit => injection hc with hc; subst hc; exact wp_exit (now hr)
   case ret => injection hc with hc; subst hc; exact wp_ret (now hr)
   case region id ops draw =>
    obtain ⟨l, pairs, rfl, hR, hd⟩ := compRegion_spec hc
    simp only [arun] at hr
    split at hr
    case h_2 => cases hr
    rename_i e1 s1 logs hrun
    split at hr
    case isFalse => cases hr
    rename_i hst
    injection hr with hr; injection hr with h1 hr; injection hr with h2 h3
    subst h1; subst h2; subst h3
    cases draw with
    | false => exact region_seq hcall hR h hrun hK
    | true =>
     obtain ⟨h4, rfl⟩ := hd rfl
     exact region_any hm hcall hR (drawOK_spec hR.len h4) h hrun hst hK
   case seq p q =>
    split at hc
    case h_2 => cases hc
    rename_i p' q' hp hq
    injection hc with hc; subst hc
    simp only [arun] at hr
    refine wp_seq ?_
    split at hr
    ·rename_i e1 s1 hr1
     refine ih p p' G e s a w .normal e1 s1 _ hp h hr1 ?_
     intro a1 w1 G1 hle hkp h1
     exact ih q q' G1 e1 s1 a1 w1 x e' s' Q hq h1 hr (hK.of hle hkp (arun_ctr hcall _ _ _ _ _ _ _ hr1))
    ·rename_i hne
     refine ih p p' G e s a w x e' s' _ hp h hr ?_
     intro a1 w1 G1 hle hkp h1
     have := hK a1 w1 G1 hle hkp h1
     cases x with
     | normal => exact absurd hr (hne _ _)
     | exit id => exact this
     | ret => exact this
   case cond y p q =>
    split at hc
    case h_2 => cases hc
    rename_i y' p' q' hy hp hq
    injection hc with hc; subst hc
    simp only [arun] at hr
    split at hr
    case h_2 => cases hr
    rename_i t ht
    have hv := h.opd.opd hy
    rw [ht] at hv
    refine wp_cond hv.bool_inv ?_
    cases t with
    | true => exact ih p p' G e s a w x e' s' Q hp h hr hK
    | false => exact ih q q' G e s a w x e' s' Q hq h hr hK
   case block id p =>
    simp only [Option.map_eq_some_iff] at hc
    obtain ⟨p', hp, rfl⟩ := hc
    simp only [arun] at hr
    refine wp_block ?_
    split at hr
    ·rename_i id' e1 s1 hr1
     refine ih p p' G e s a w (.exit id') e1 s1 _ hp h hr1 ?_
     intro a1 w1 G1 hle hkp h1
     simp only [AExit.exit_, Exit.inBlock]
     split at hr
     ·rename_i he
      rw [if_pos he]
      injection hr with hr; injection hr with h2 hr; injection hr with h3 h4
      subst h2; subst h3; subst h4
      exact hK a1 w1 G1 hle hkp h1
     ·rename_i he
      rw [if_neg he]
      injection hr with hr; injection hr with h2 hr; injection hr with h3 h4
      subst h2; subst h3; subst h4
      exact hK a1 w1 G1 hle hkp h1
    ·rename_i hne
     refine ih p p' G e s a w x e' s' _ hp h hr ?_
     intro a1 w1 G1 hle hkp h1
     have := hK a1 w1 G1 hle hkp h1
     cases x with
     | normal => exact this
     | exit id => exact absurd hr (hne _ _ _)
     | ret => exact this
   case loop p =>
    simp only [Option.map_eq_some_iff] at hc
    obtain ⟨p', hp, rfl⟩ := hc
    have key : ∀ (m : Nat), m ≤ n + 1 → ∀ (G : Gh) (e : AEnv) (s : ASt) (a : Act) (w : World), Rel nt B w0 G e s a w → arun call m (.loop p') e s = some (x, e', s') → Next P nt B w0 G s.ctr none e' s' (Q x.exit_) → Code.rounds P p Q m a w := by
     intro m
     induction m with
     | zero => intro _ G e s a w _ hr; simp [arun] at hr
     | succ m im =>
      intro hm' G e s a w h hr hK
      simp only [arun] at hr
      rw [rounds_succ]
      split at hr
      ·rename_i e1 s1 hr1
       refine IH m (by omega) p p' G e s a w .normal e1 s1 _ hp h hr1 ?_
       intro a1 w1 G1 hle hkp h1
       exact im (by omega) G1 e1 s1 a1 w1 h1 hr (hK.of hle hkp (arun_ctr hcall _ _ _ _ _ _ _ hr1))
      ·rename_i hne
       refine IH m (by omega) p p' G e s a w x e' s' _ hp h hr ?_
       intro a1 w1 G1 hle hkp h1
       have := hK a1 w1 G1 hle hkp h1
       cases x with
       | normal => exact absurd hr (hne _ _)
       | exit id => exact this
       | ret => exact this
    exact wp_loop_rounds (n + 1) (key (n + 1) (Nat.le_refl _) G e s a w h hr hK)
   case scope p =>
    simp only [Option.map_eq_some_iff] at hc
    obtain ⟨p', hp, rfl⟩ := hc
    simp only [arun] at hr
    refine wp_scope_straight ?_
    refine ih p p' G e s a w x e' s' _ hp h hr ?_
    intro a1 w1 G1 hle hkp h1
    have := hK a1 w1 G1 hle hkp h1
    cases x <;> exact this
/-! ### Results -/
/-- A result's value. -/
def resM (tmps : Array Value) : ResultVar → Sem Value
 | .tmp t => pure (tmps.getD t undef)
 | .cell a t => do loadVar t (← asAddr (tmps.getD a undef))
theorem resV_sound {G : Gh} {e : AEnv} {s : ASt} {a : Act} {w : World} (h : Sim B w0 G s w) (ho : OpdR G e a) : ∀ {rs : List ResultVar} {ar : List ARes} {l : List AV}, compRes P rs = some ar → resV e s ar = some l →
  ∃ cs, (rs.mapM (resM a.tmps)).run P w = .ok cs w ∧ VRs G l cs
 | [], ar, l, hc, hl => by
  simp only [compRes] at hc
  injection hc with hc; subst hc
  simp only [resV] at hl
  injection hl with hl; subst hl
  exact ⟨[], by simp, VRs.nil G⟩
 | .tmp t :: rs, ar, l, hc, hl => by
  simp only [compRes, Option.map_eq_some_iff] at hc
  obtain ⟨r, hr, rfl⟩ := hc
  simp only [resV, Option.map_eq_some_iff] at hl
  obtain ⟨l', hl', rfl⟩ := hl
  obtain ⟨cs, h1, h2⟩ := resV_sound h ho hr hl'
  refine ⟨a.tmps.getD t undef :: cs, ?_, VRs.cons (ho t) h2⟩
  simp only [List.mapM_cons, Sem.run_bind, resM, Sem.run_pure, Result.andThen_ok]
  rw [h1]
  rfl
 | .cell x t :: rs, ar, l, hc, hl => by
  simp only [compRes] at hc
  split at hc
  case h_2 => cases hc
  rename_i g sz r hg hs hr
  split at hc
  case isFalse => cases hc
  injection hc with hc; subst hc
  simp only [resV] at hl
  split at hl
  case h_2 => cases hl
  rename_i v l' hv hl'
  injection hl with hl; subst hl
  obtain ⟨cs, h1, h2⟩ := resV_sound h ho hr hl'
  obtain ⟨ad, cv, h3, h4, h5⟩ := ld_sound (P := P) h hg hs hv (ho x)
  refine ⟨cv :: cs, ?_, VRs.cons h5 h2⟩
  simp only [List.mapM_cons, Sem.run_bind, resM, h3, asAddr, Sem.run_pure, Result.andThen_ok, h4]
  rw [h1]
  rfl
theorem results_sound {G : Gh} {e : AEnv} {s : ASt} {a : Act} {w : World} (h : Sim B w0 G s w) (ho : OpdR G e a) {fn : Func} {ar : List ARes} {l : List AV} (hc : compRes P fn.results.toList = some ar) (hl : resV e s ar = some l) :
  ∃ cv, (results fn a.tmps).run P w = .ok cv w ∧ VR G (oneOf l) cv := by
 obtain ⟨cs, h1, h2⟩ := resV_sound h ho hc hl
 have hrun : (fn.results.mapM (resM a.tmps)).run P w = .ok cs.toArray w := by
  rw [Array.mapM_eq_mapM_toList, Sem.run_map, h1]
  rfl
 have hre : results fn a.tmps = (do let vs ← fn.results.mapM (resM a.tmps); pure (if h : vs.size = 1 then vs[0] else .tuple vs)) := rfl
 rw [hre]
 rw [Sem.run_bind, hrun]
 simp only [Result.andThen_ok, Sem.run_pure]
 refine ⟨_, rfl, ?_⟩
 match l, h2 with
 | [], h2 => rw [h2.nil_inv]; exact VR.tuple' (VRs.nil G)
 | [v], h2 =>
  obtain ⟨y, c', rfl, h3, h4⟩ := h2.cons_inv
  rw [h4.nil_inv]
  exact h3
 | v :: v' :: l, h2 =>
  obtain ⟨y, c', rfl, h3, h4⟩ := h2.cons_inv
  obtain ⟨y', c'', rfl, h5, h6⟩ := h4.cons_inv
  have : ¬ (y :: y' :: c'').toArray.size = 1 := by simp
  rw [dif_neg this]
  exact VR.tuple' h2
end
end Go.Proofs.YtdohdncgjendkaaDoor.Abs
set_option linter.unnecessarySimpa false
namespace Go.Proofs.YtdohdncgjendkaaDoor.Abs
open Go.RowKit
theorem argEnv_get : ∀ (l : List AV) (i t : Nat), (argEnv i l).get t = if i ≤ t then (l[t - i]?).getD udf else udf
 | [], i, t => by simp [argEnv, AEnv.get]
 | v :: l, i, t => by
  simp only [argEnv, AEnv.get, argEnv_get l]
  by_cases h : i = t
  ·subst h; simp
  ·rw [if_neg h]
   by_cases h1 : i ≤ t
   ·rw [if_pos (by omega), if_pos h1]
    rw [show t - i = (t - (i + 1)) + 1 from by omega]
    simp
   ·rw [if_neg (by omega), if_neg h1]
section
variable {P : Program} {nt B : Nat} {w0 : World}
theorem arg_opd {G : Gh} {l : List AV} {args : Array Value} (h : VRs G l args.toList) (k : Nat) : OpdR G (argEnv 0 l) { tmps := args ++ Array.replicate k undef, defers := [] } := by
 intro t
 rw [argEnv_get]
 simp only [Nat.zero_le, if_true, Nat.sub_zero]
 have hs : args.size = l.length := by simpa using h.1
 rw [Array.getD_eq_getD_getElem?]
 by_cases ht : t < l.length
 ·rw [List.getElem?_eq_getElem ht, Array.getElem?_append_left (by omega)]
  have : args[t]? = some args[t] := Array.getElem?_eq_getElem (by omega)
  rw [this]
  exact h.2 t _ _ (List.getElem?_eq_getElem ht) (by simpa using this)
 ·rw [List.getElem?_eq_none (by omega), Array.getElem?_append_right (by omega)]
  by_cases hk : t - args.size < k
  ·rw [Array.getElem?_eq_getElem (by simpa using hk)]
   simp only [Array.getElem_replicate, Option.getD_some, Option.getD_none]
   exact VR.udf_
  ·rw [Array.getElem?_eq_none (by simpa using hk)]
   exact VR.udf_
/-- The compiled functions are the program's. -/
def CodeOK (X : Ctx) : Prop := ∀ f af, X.code f = some af → ∃ fn, X.P.funcs[f]? = some fn ∧ compFn X.P fn = some af
/-- The given laws of functions hold. -/
def OrcOK (X : Ctx) (B : Nat) (w0 : World) : Prop := ∀ f g, X.orc f = some g → ∀ args s v s', g args s = some (v, s') → Enters X.P f ∧ s'.dfr = s.dfr ∧ s.ctr ≤ s'.ctr ∧ CallR X.P B w0 f args s v s'
theorem compFn_spec {fn : Func} {af : AFun} (h : compFn P fn = some af) : ∃ c, fn.body = some c ∧ compile P fn.ntmps c = some af.body ∧ compRes P fn.results.toList = some af.results ∧ af.nt = fn.ntmps ∧ (fn.name == "runtime.NumGoroutine") = false := by
 unfold compFn at h
 split at h
 case h_2 => cases h
 rename_i c hc
 split at h
 case h_2 => cases h
 rename_i b r hb hr
 split at h
 ·cases h
 ·rename_i hn
  injection h with h; subst h
  exact ⟨c, hc, hb, hr, rfl, by simpa using hn⟩
theorem callFunc_run {f : Nat} (h : Enters P f) (args : Array Value) (w : World) : (callFunc f args).run P w = .ok (.enter f args) w := by
 obtain ⟨fn, hfn, hname, hbody⟩ := h
 simp only [callFunc, run_program, Sem.run_bind, Result.andThen_ok, hfn, hname, Bool.false_eq_true, if_false]
 rw [if_neg (by simp [Option.isSome_iff_ne_none.1 hbody])]
 rfl
theorem CodeOK.enters {X : Ctx} (hX : CodeOK X) {f : Nat} {af : AFun} (h : X.code f = some af) : Enters X.P f := by
 obtain ⟨fn, h1, h2⟩ := hX f af h
 obtain ⟨c, h3, _, _, _, h4⟩ := compFn_spec h2
 exact ⟨fn, h1, h4, by rw [h3]; rfl⟩
theorem DfrR.nil_inv {G : Gh} {ds : List Deferred} (h : DfrR G [] ds) : ds = [] := by
 cases ds with
 | nil => rfl
 | cons d ds => exact h.elim
/-- A function's body, from its arguments. -/
theorem body_sound {X : Ctx} (hm : X.P.follows .mixedOrders = true) (hX : CodeOK X) {call : Caller} (hcall : CallOK X.P B w0 call) {f : Nat} {af : AFun} (hf : X.code f = some af) {l : List AV} {args : Array Value} (hn : l.length ≤ af.nt) {n : Nat} {x : AExit} {e' : AEnv} {s s' : ASt}
  (hr : arun call n af.body (argEnv 0 l) s = some (x, e', s')) (hs0 : s.dfr = []) {G : Gh} {w : World} (hs : Sim B w0 G s w) (hold : Old B w0 G) (ha : VRs G l args.toList) :
  ∃ fn c, X.P.funcs[f]? = some fn ∧ fn.body = some c ∧ compRes X.P fn.results.toList = some af.results ∧ ∀ Q, Next X.P af.nt B w0 G s.ctr none e' s' (Q x.exit_) → c.wp X.P Q { tmps := args ++ Array.replicate (fn.ntmps - args.size) undef, defers := [] } w := by
 obtain ⟨fn, h1, h2⟩ := hX f af hf
 obtain ⟨c, h3, h4, h5, h6, _⟩ := compFn_spec h2
 refine ⟨fn, c, h1, h3, h5, fun Q hK => ?_⟩
 have hsz : args.size = l.length := by simpa using ha.1
 rw [h6] at hK
 exact arun_sound hm hcall n c af.body G (argEnv 0 l) s _ w x e' s' Q h4 ⟨hs, arg_opd ha _, by rw [hs0]; trivial, by simp only [Array.size_append, Array.size_replicate]; omega, hold⟩ hr hK
/-- A deferred call. -/
theorem dcall_sound {X : Ctx} (hm : X.P.follows .mixedOrders = true) (hX : CodeOK X) {call : Caller} (hcall : CallOK X.P B w0 call) {n f : Nat} {l : List AV} {s s' : ASt} (h : dcall X call n f l s = some s') (hs0 : s.dfr = []) :
  Enters X.P f ∧ s'.dfr = [] ∧ s.ctr ≤ s'.ctr ∧ ∀ (G : Gh) (w : World) (args : Array Value), Sim B w0 G s w → Old B w0 G → VRs G l args.toList →
   CallsD X.P f args .returning w fun e u' w' => u' = .returning ∧ ∃ v G', e = .returned v ∧ G.Le G' ∧ Sim B w0 G' s' w' ∧ G.Keep s.ctr none G' := by
 unfold dcall at h
 split at h
 case h_2 => cases h
 rename_i af _ hf
 split at h
 case isFalse => cases h
 rename_i hn
 unfold finish0 at h
 split at h
 ·cases h
 ·rename_i x e s1 hne hr
  split at h
  case h_2 => cases h
  rename_i r hd hre
  injection h with h; subst h
  refine ⟨hX.enters hf, hd, arun_ctr hcall _ _ _ _ _ _ _ hr, fun G w args hs hold ha => ?_⟩
  obtain ⟨fn, c, h1, h2, h3, h4⟩ := body_sound hm hX hcall hf hn hr hs0 hs hold ha
  refine callsD_of_wp (R := fun e w' => ∃ v G', e = .returned v ∧ G.Le G' ∧ Sim B w0 G' s1 w' ∧ G.Keep s.ctr none G') h1 h2 (h4 _ ?_)
  intro a w' G' hle hkp hrel
  obtain ⟨cv, h5, h6⟩ := results_sound hrel.sim hrel.opd h3 hre
  have hdd : a.defers = [] := by
   have := hrel.dfr
   rw [hd] at this
   exact this.nil_inv
  cases x with
  | normal => exact ⟨hdd, cv, h5, cv, G', rfl, hle, hrel.sim, hkp⟩
  | ret => exact ⟨hdd, cv, h5, cv, G', rfl, hle, hrel.sim, hkp⟩
  | exit id => exact (hne id rfl).elim
 ·cases h
theorem Leaves_of {fn : Func} {tmps : Array Value} {R : Ending → World → Prop} {d : Deferred} {ds : List Deferred} {w : World} {f : Nat} {cap : Array Value} (ht : d.target = .fn (.func f) cap) (hE : Enters P f)
  (h : CallsD P f (d.args ++ cap) .returning w fun e u' w' => u' = .returning ∧ ∃ v, e = .returned v ∧ Leaves P fn tmps R ds .returning w') : Leaves P fn tmps R (d :: ds) .returning w := by
 refine ⟨by simp, .func f, cap, f, d.args ++ cap, ht, ?_, h.mono ?_⟩
 ·rw [ht]
  simp only [invoke]
  exact callFunc_run hE _ w
 ·rintro e u' w' ⟨rfl, v, rfl, h⟩
  exact h
theorem dfr_sound {X : Ctx} (hm : X.P.follows .mixedOrders = true) (hX : CodeOK X) {call : Caller} (hcall : CallOK X.P B w0 call) {n : Nat} : ∀ {dl : List (Nat × List AV)} {s s' : ASt}, runDfr (dcall X call n) dl s = some s' → s.dfr = [] →
  s'.dfr = [] ∧ s.ctr ≤ s'.ctr ∧ ∀ (G : Gh) (w : World) (ds : List Deferred) (fn : Func) (tmps : Array Value) (R : Ending → World → Prop), Sim B w0 G s w → Old B w0 G → DfrR G dl ds →
   (∀ G' w', G.Le G' → G.Keep s.ctr none G' → Sim B w0 G' s' w' → ∃ v, (results fn tmps).run X.P w' = .ok v w' ∧ R (.returned v) w') → Leaves X.P fn tmps R ds .returning w
 | [], s, s', h, hs0 => by
  simp only [runDfr] at h
  injection h with h; subst h
  refine ⟨hs0, Nat.le_refl _, fun G w ds fn tmps R hs hold hd hK => ?_⟩
  rw [hd.nil_inv]
  exact hK G w (.refl G) (.refl G _ _) hs
 | (f, l) :: dl, s, s', h, hs0 => by
  simp only [runDfr] at h
  split at h
  case h_2 => cases h
  rename_i s1 h1
  obtain ⟨k1, k2, k3, k4⟩ := dcall_sound hm hX hcall h1 hs0
  obtain ⟨m1, m2, m3⟩ := dfr_sound hm hX hcall h k2
  refine ⟨m1, Nat.le_trans k3 m2, fun G w ds fn tmps R hs hold hd hK => ?_⟩
  cases ds with
  | nil => exact hd.elim
  | cons d ds =>
   obtain ⟨⟨cap, h2, h3⟩, h4⟩ := hd
   refine Leaves_of h2 k1 ((k4 G w _ hs hold h3).mono ?_)
   rintro e u' w' ⟨rfl, v, G', rfl, h5, h6, h7⟩
   refine ⟨rfl, v, rfl, m3 G' w' ds fn tmps R h6 (hold.mono h5) (h4.mono h5) fun G'' w'' h8 h9 h10 => hK G'' w'' (h5.trans h8) (h7.trans fun i hi ho hf => h9 i (by omega) ho hf) h10⟩
/-- Calls of every depth. -/
theorem acall_ok {X : Ctx} (hm : X.P.follows .mixedOrders = true) (hX : CodeOK X) (hO : OrcOK X B w0) : ∀ n, CallOK X.P B w0 (acall X n) := by
 intro n
 induction n with
 | zero => intro f args s v s' h; simp [acall] at h
 | succ n ih =>
  intro f args s v s' h
  simp only [acall] at h
  split at h
  ·rename_i g hg
   exact hO f g hg args s v s' h
  ·split at h
   case h_2 => cases h
   rename_i af hf
   split at h
   case isFalse => cases h
   rename_i hn
   unfold finish at h
   split at h
   ·cases h
   ·rename_i x e s1 hne hr
    split at h
    case h_2 => cases h
    rename_i s2 hd
    split at h
    case h_2 => cases h
    rename_i l hl
    injection h with h; injection h with h1 h2; subst h1; subst h2
    obtain ⟨m1, m2, m3⟩ := dfr_sound hm hX ih hd rfl
    have hctr := arun_ctr ih _ _ _ _ _ _ _ hr
    refine ⟨hX.enters hf, rfl, Nat.le_trans hctr m2, ?_⟩
    intro G w cargs hs hold ha
    have hs' : Sim B w0 G { s with dfr := [] } w := ⟨hs.below, hs.hB, hs.num, hs.inj, hs.obj, hs.comm, hs.own⟩
    obtain ⟨fn, c, h1, h2, h3, h4⟩ := body_sound hm hX ih hf hn hr rfl hs' hold ha
    refine calls_of_wp_defers h1 h2 (h4 _ ?_)
    intro a w' G' hle hkp hrel
    have hs1 : Sim B w0 G' { s1 with dfr := [] } w' := ⟨hrel.sim.below, hrel.sim.hB, hrel.sim.num, hrel.sim.inj, hrel.sim.obj, hrel.sim.comm, hrel.sim.own⟩
    have fin : Leaves X.P fn a.tmps (fun e w' => ∃ cv G', e = .returned cv ∧ VR G' (oneOf l) cv ∧ G.Le G' ∧ Sim B w0 G' { s2 with dfr := s.dfr } w' ∧ G.Keep s.ctr none G') a.defers .returning w' := by
     refine m3 G' w' a.defers fn a.tmps _ hs1 hrel.old hrel.dfr fun G'' w'' h5 h6 h7 => ?_
     obtain ⟨cv, h8, h9⟩ := results_sound h7 (hrel.opd.mono h5) h3 hl
     exact ⟨cv, h8, cv, G'', rfl, h9, hle.trans h5, ⟨h7.below, h7.hB, h7.num, h7.inj, h7.obj, h7.comm, h7.own⟩, hkp.trans fun i hi ho hf => h6 i (Nat.lt_of_lt_of_le hi hctr) ho hf⟩
    cases x with
    | normal => exact fin
    | ret => exact fin
    | exit id => exact (hne id rfl).elim
   ·cases h
end
/-! ### More fuel -/
def More (c c' : Caller) : Prop := ∀ f l s r, c f l s = some r → c' f l s = some r
theorem More.refl (c : Caller) : More c c := fun _ _ _ _ h => h
theorem runOp_more {c c' : Caller} (h : More c c') {b : Nat} {o : AOp} {e : AEnv} {s : ASt} {r : AV × ASt} (hr : runOp c b o e s = some r) : runOp c' b o e s = some r := by
 unfold runOp at *
 split at hr
 ·exact hr
 ·exact hr
 ·split at hr
  ·split at hr
   ·exact h _ _ _ _ hr
   ·cases hr
  ·cases hr
theorem stepOp_more {c c' : Caller} (h : More c c') {b : Nat} {o : AOper} {e : AEnv} {s : ASt} {r : AEnv × ASt} (hr : stepOp c b o e s = some r) : stepOp c' b o e s = some r := by
 unfold stepOp at *
 by_cases hw : wanted e o.guard = true
 ·rw [if_pos hw] at *
  cases hx : runOp c b o.op e s with
  | none => rw [hx] at hr; cases hr
  | some x =>
   rw [runOp_more h hx]
   rw [hx] at hr
   exact hr
 ·rw [if_neg hw] at *
  exact hr
theorem runOps_more {c c' : Caller} (h : More c c') {b : Nat} : ∀ {l : List AOper} {i : Nat} {e : AEnv} {s : ASt} {r : AEnv × ASt × List Log}, runOps c b l i e s = some r → runOps c' b l i e s = some r
 | [], _, _, _, _, hr => hr
 | o :: os, i, e, s, r, hr => by
  simp only [runOps] at hr ⊢
  split at hr
  case h_2 => cases hr
  rename_i e1 s1 h1
  rw [stepOp_more h h1]
  simp only
  split at hr
  case h_2 => cases hr
  rename_i e2 s2 l h2
  rw [runOps_more h h2]
  exact hr
theorem arun_more {c c' : Caller} (h : More c c') : ∀ {n m : Nat} {a : ACode} {e : AEnv} {s : ASt} {r : AExit × AEnv × ASt}, n ≤ m → arun c n a e s = some r → arun c' m a e s = some r := by
 intro n
 induction n with
 | zero => intro m a e s r _ hr; simp [arun] at hr
 | succ n ih =>
  intro m a e s r hm hr
  obtain ⟨m, rfl⟩ : ∃ k, m = k + 1 := ⟨m - 1, by omega⟩
  have hm' : n ≤ m := by omega
  cases a <;> simp only [arun] at hr ⊢
  case region na pre ops pairs =>
   split at hr
   ·rename_i e1 s1 l h1
    rw [runOps_more h h1]
    exact hr
   ·cases hr
  case seq a b =>
   split at hr
   ·rename_i e1 s1 h1
    rw [ih hm' h1]
    exact ih hm' hr
   ·rename_i hne
    rw [ih hm' hr]
    obtain ⟨x, e', s'⟩ := r
    cases x with
    | normal => exact absurd hr (hne _ _)
    | exit id => rfl
    | ret => rfl
  case cond y a b =>
   split at hr
   ·exact ih hm' hr
   ·cases hr
  case block id b =>
   split at hr
   ·rename_i id' e1 s1 h1
    rw [ih hm' h1]
    exact hr
   ·rename_i hne
    rw [ih hm' hr]
    obtain ⟨x, e', s'⟩ := r
    cases x with
    | normal => rfl
    | exit id' => exact absurd hr (hne _ _ _)
    | ret => rfl
  case loop b =>
   split at hr
   ·rename_i e1 s1 h1
    rw [ih hm' h1]
    exact ih hm' hr
   ·rename_i hne
    rw [ih hm' hr]
    obtain ⟨x, e', s'⟩ := r
    cases x with
    | normal => exact absurd hr (hne _ _)
    | exit id => rfl
    | ret => rfl
  case scope b => exact ih hm' hr
  all_goals exact hr
theorem finish0_more {fn : AFun} {r r' : Option (AExit × AEnv × ASt)} (h : ∀ x, r = some x → r' = some x) {s : ASt} (hr : finish0 fn r = some s) : finish0 fn r' = some s := by
 cases r with
 | none => cases hr
 | some x => rw [h x rfl]; exact hr
theorem runDfr_more {c c' : Nat → List AV → ASt → Option ASt} (h : ∀ f l s r, c f l s = some r → c' f l s = some r) : ∀ {ds : List (Nat × List AV)} {s s' : ASt}, runDfr c ds s = some s' → runDfr c' ds s = some s'
 | [], _, _, hr => hr
 | (f, l) :: ds, s, s', hr => by
  simp only [runDfr] at hr ⊢
  split at hr
  ·rename_i s1 h1
   rw [h _ _ _ _ h1]
   exact runDfr_more h hr
  ·cases hr
theorem finish_more {c c' : Nat → List AV → ASt → Option ASt} (hc : ∀ f l s r, c f l s = some r → c' f l s = some r) {fn : AFun} {old : List (Nat × List AV)} {r r' : Option (AExit × AEnv × ASt)} (h : ∀ x, r = some x → r' = some x) {y : AV × ASt} (hr : finish c fn old r = some y) : finish c' fn old r' = some y := by
 cases r with
 | none => cases hr
 | some x =>
  rw [h x rfl]
  obtain ⟨x, e, s⟩ := x
  cases x with
  | exit id => cases hr
  | normal =>
   simp only [finish] at hr ⊢
   split at hr
   ·rename_i s1 h1
    rw [runDfr_more hc h1]
    exact hr
   ·cases hr
  | ret =>
   simp only [finish] at hr ⊢
   split at hr
   ·rename_i s1 h1
    rw [runDfr_more hc h1]
    exact hr
   ·cases hr
theorem dcall_more {X : Ctx} {c c' : Caller} (h : More c c') {n m : Nat} (hm : n ≤ m) (f : Nat) (l : List AV) (s r : ASt) (hr : dcall X c n f l s = some r) : dcall X c' m f l s = some r := by
 unfold dcall at *
 split at hr
 ·split at hr
  ·rename_i hn
   rw [if_pos hn]
   exact finish0_more (fun x hx => arun_more h hm hx) hr
  ·cases hr
 ·cases hr
theorem acall_succ (X : Ctx) : ∀ n, More (acall X n) (acall X (n + 1)) := by
 intro n
 induction n with
 | zero => intro f l s r hr; simp [acall] at hr
 | succ n ih =>
  intro f l s r hr
  simp only [acall] at hr
  conv => lhs; rw [acall]
  split at hr
  ·exact hr
  ·split at hr
   ·split at hr
    ·simp only [*, if_true]
     exact finish_more (fun f l s r hr => dcall_more ih (Nat.le_succ n) f l s r hr) (fun x hx => arun_more ih (Nat.le_succ n) hx) hr
    ·cases hr
   ·cases hr
theorem acall_more (X : Ctx) {n m : Nat} (h : n ≤ m) : More (acall X n) (acall X m) := by
 induction m with
 | zero => rw [show n = 0 from by omega]; exact .refl _
 | succ m ih =>
  rcases Nat.lt_or_ge n (m + 1) with h' | h'
  ·exact fun f l s r hr => acall_succ X m f l s r (ih (by omega) f l s r hr)
  ·rw [show n = m + 1 from by omega]; exact .refl _
/-! ### What holds behind a run -/
def Does (X : Ctx) (f : Nat) (l : List AV) (s : ASt) (K : AV → ASt → Prop) : Prop := ∃ n v s', acall X n f l s = some (v, s') ∧ K v s'
theorem Does.mono {X : Ctx} {f : Nat} {l : List AV} {s : ASt} {K K' : AV → ASt → Prop} (h : Does X f l s K) (hk : ∀ v s', K v s' → K' v s') : Does X f l s K' := by
 obtain ⟨n, v, s', h1, h2⟩ := h
 exact ⟨n, v, s', h1, hk v s' h2⟩
def Runs (X : Ctx) (c : ACode) (e : AEnv) (s : ASt) (K : AExit → AEnv → ASt → Prop) : Prop := ∃ n x e' s', arun (acall X n) n c e s = some (x, e', s') ∧ K x e' s'
def optK {α : Type} : Option α → (α → Prop) → Prop
 | some a, K => K a
 | none, _ => False
def condV (v : AV) (p q : Prop) : Prop := match v with
 | .bool true => p
 | .bool false => q
 | _ => False
def callK (X : Ctx) (s : ASt) (K : AV → ASt → Prop) : Option (Nat × List AV) → Prop
 | some (g, l) => Does X g l s K
 | none => False
def opK (X : Ctx) (b : Nat) (o : AOp) (e : AEnv) (s : ASt) (K : AV → ASt → Prop) : Prop :=
 match o with
 | .call f args => callK X s K (callV (ev e) f args)
 | o => match o.kd with
  | .v => optK (opV (ev e) b s.heap o) fun v => K v s
  | _ => optK (opW (ev e) b s o) fun r => K r.1 r.2
def guardK (e : AEnv) (g : Option (Nat × Bool)) (p q : Prop) : Prop :=
 match g with
 | none => p
 | some (t, want) => condV (.bool (wanted e (some (t, want)))) p q
/-- The operations of a region; logs are kept of those that are asked for. -/
def opsK (X : Ctx) (b : Nat) (mask : List Nat) : List AOper → Nat → List Log → AEnv → ASt → (AEnv → ASt → List Log → Prop) → Prop
 | [], _, lg, e, s, K => K e s lg
 | o :: os, i, lg, e, s, K => guardK e o.guard
   (opK X b o.op e s fun v s' => opsK X b mask os (i + 1) (if mask.contains i then { i, key := opKey (ev e) b o.op, h := s.heap, h' := s'.heap } :: lg else lg) (e.put o.dst v) s' K)
   (opsK X b mask os (i + 1) lg (e.put o.dst udf) s K)
def maskOf (pairs : List (Nat × Nat)) : List Nat := pairs.flatMap fun p => [p.1, p.2]
/-- The logs that matter. -/
def stable (pairs : List (Nat × Nat)) (lg : List Log) : Prop := match pairs with
 | [] => True
 | ps => Stable ps lg
def thenK (N : AEnv → ASt → Prop) (K : AExit → AEnv → ASt → Prop) : AExit → AEnv → ASt → Prop
 | .normal, e, s => N e s
 | x, e, s => K x e s
def blockK (id : Nat) (K : AExit → AEnv → ASt → Prop) : AExit → AEnv → ASt → Prop
 | .exit id', e, s => if id' = id then K .normal e s else K (.exit id') e s
 | x, e, s => K x e s
def aw (X : Ctx) : ACode → (AExit → AEnv → ASt → Prop) → AEnv → ASt → Prop
 | .skip, K, e, s => K .normal e s
 | .region na pre ops pairs, K, e, s => opsK X s.ctr (maskOf pairs) ops 0 [] e (s.enter na pre) fun e' s' lg => stable pairs lg ∧ K .normal e' s'
 | .seq a b, K, e, s => aw X a (thenK (aw X b K) K) e s
 | .cond x a b, K, e, s => condV (ev e x) (aw X a K e s) (aw X b K e s)
 | .block id b, K, e, s => aw X b (blockK id K) e s
 | .loop b, K, e, s => Runs X (.loop b) e s K
 | .exit id, K, e, s => K (.exit id) e s
 | .scope b, K, e, s => aw X b K e s
 | .ret, K, e, s => K .ret e s
section
variable {X : Ctx}
theorem optK_some {α : Type} {x : Option α} {K : α → Prop} (h : optK x K) : ∃ a, x = some a ∧ K a := by
 cases x with
 | none => exact h.elim
 | some a => exact ⟨a, rfl, h⟩
theorem condV_elim {v : AV} {p q : Prop} (h : condV v p q) : ∃ t, v = .bool t ∧ (t = true → p) ∧ (t = false → q) := by
 cases v with
 | bool t => cases t <;> exact ⟨_, rfl, by first | exact fun _ => h | simp, by first | exact fun _ => h | simp⟩
 | _ => exact h.elim
theorem opK_sound {b : Nat} {o : AOp} {e : AEnv} {s : ASt} {K : AV → ASt → Prop} (h : opK X b o e s K) : ∃ n v s', runOp (acall X n) b o e s = some (v, s') ∧ K v s' := by
 have hv : ∀ o : AOp, o.kd = .v → optK (opV (ev e) b s.heap o) (fun v => K v s) → ∃ n v s', runOp (acall X n) b o e s = some (v, s') ∧ K v s' := by
  intro o hk h
  obtain ⟨v, h1, h2⟩ := optK_some h
  refine ⟨0, v, s, ?_, h2⟩
  unfold runOp
  rw [hk]
  simp only [h1, Option.map_some]
 have hw : ∀ o : AOp, o.kd = .w → optK (opW (ev e) b s o) (fun r => K r.1 r.2) → ∃ n v s', runOp (acall X n) b o e s = some (v, s') ∧ K v s' := by
  intro o hk h
  obtain ⟨⟨v, s'⟩, h1, h2⟩ := optK_some h
  refine ⟨0, v, s', ?_, h2⟩
  unfold runOp
  rw [hk]
  simp only [h1]
 cases o <;> first
  | exact hv _ rfl h
  | exact hw _ rfl h
  | skip
 rename_i f args
 simp only [opK] at h
 unfold runOp
 simp only [AOp.kd]
 cases hc : callV (ev e) f args with
 | none => rw [hc] at h; exact h.elim
 | some gl =>
  obtain ⟨g, l⟩ := gl
  rw [hc] at h
  obtain ⟨n, v, s', h1, h2⟩ := h
  exact ⟨n, v, s', h1, h2⟩
theorem guardK_elim {e : AEnv} {g : Option (Nat × Bool)} {p q : Prop} (h : guardK e g p q) : (wanted e g = true ∧ p) ∨ (wanted e g = false ∧ q) := by
 cases g with
 | none => exact .inl ⟨rfl, h⟩
 | some tw =>
  obtain ⟨t, want⟩ := tw
  obtain ⟨b, h1, h2, h3⟩ := condV_elim h
  injection h1 with h1
  cases b with
  | true => exact .inl ⟨h1, h2 rfl⟩
  | false => exact .inr ⟨h1, h3 rfl⟩
/-- Of the wanted logs none is missing. -/
def Holds (mask : List Nat) (full lg : List Log) : Prop := ∀ r ∈ full, r.i ∈ mask → r ∈ lg ∨ (r.key = none ∧ r.h = r.h')
theorem opsK_sound {b : Nat} {mask : List Nat} : ∀ {ops : List AOper} {i : Nat} {lg : List Log} {e : AEnv} {s : ASt} {K : AEnv → ASt → List Log → Prop}, opsK X b mask ops i lg e s K →
  ∃ n e' s' full lg', runOps (acall X n) b ops i e s = some (e', s', full) ∧ K e' s' lg' ∧ (∀ r ∈ lg, r ∈ lg') ∧ Holds mask full lg'
 | [], i, lg, e, s, K, h => ⟨0, e, s, [], lg, rfl, h, fun r hr => hr, fun r hr => by simp at hr⟩
 | o :: os, i, lg, e, s, K, h => by
  simp only [opsK] at h
  rcases guardK_elim h with ⟨hw, h⟩ | ⟨hw, h⟩
  ·obtain ⟨n1, v, s1, h1, h2⟩ := opK_sound h
   obtain ⟨n2, e', s', full, lg', h3, h4, h5, h6⟩ := opsK_sound h2
   have hst : stepOp (acall X (max n1 n2)) b o e s = some (e.put o.dst v, s1) := by
    unfold stepOp
    rw [if_pos hw, runOp_more (acall_more X (Nat.le_max_left n1 n2)) h1]
    rfl
   refine ⟨max n1 n2, e', s', { i, key := if wanted e o.guard then opKey (ev e) b o.op else none, h := s.heap, h' := s1.heap } :: full, lg', ?_, h4, ?_, ?_⟩
   ·simp only [runOps, hst, runOps_more (acall_more X (Nat.le_max_right n1 n2)) h3]
   ·intro r hr
    refine h5 r ?_
    split
    ·exact List.mem_cons_of_mem _ hr
    ·exact hr
   ·intro r hr hm
    rcases List.mem_cons.1 hr with rfl | hr
    ·refine .inl (h5 _ ?_)
     simp only at hm
     rw [if_pos (by simpa using hm), if_pos hw]
     exact List.mem_cons_self
    ·exact h6 r hr hm
  ·obtain ⟨n2, e', s', full, lg', h3, h4, h5, h6⟩ := opsK_sound h
   have hst : stepOp (acall X n2) b o e s = some (e.put o.dst udf, s) := by
    unfold stepOp
    rw [hw]; rfl
   refine ⟨n2, e', s', { i, key := if wanted e o.guard then opKey (ev e) b o.op else none, h := s.heap, h' := s.heap } :: full, lg', ?_, h4, h5, ?_⟩
   ·simp only [runOps, hst, h3]
   ·intro r hr hm
    rcases List.mem_cons.1 hr with rfl | hr
    ·exact .inr ⟨by rw [hw]; rfl, rfl⟩
    ·exact h6 r hr hm
theorem stable_full {pairs : List (Nat × Nat)} {full lg : List Log} (h : stable pairs lg) (hh : Holds (maskOf pairs) full lg) : Stable pairs full := by
 have hs : Stable pairs lg := by
  cases pairs with
  | nil => intro p hp; cases hp
  | cons p ps => exact h
 intro p hp r hr hri k hk t ht hti
 have m1 : r.i ∈ maskOf pairs := List.mem_flatMap.2 ⟨p, hp, by simp [hri]⟩
 have m2 : t.i ∈ maskOf pairs := List.mem_flatMap.2 ⟨p, hp, by simp [hti]⟩
 rcases hh r hr m1 with h1 | ⟨h1, _⟩
 ·rcases hh t ht m2 with h2 | ⟨_, h2⟩
  ·exact hs p hp r h1 hri k hk t h2 hti
  ·rw [h2]
 ·rw [h1] at hk; cases hk
theorem aw_sound : ∀ {c : ACode} {K : AExit → AEnv → ASt → Prop} {e : AEnv} {s : ASt}, aw X c K e s → Runs X c e s K := by
 intro c
 induction c with
 | skip => intro K e s h; exact ⟨1, .normal, e, s, rfl, h⟩
 | region na pre ops pairs =>
  intro K e s h
  obtain ⟨n, e', s', full, lg, h1, ⟨h2, h3⟩, _, h4⟩ := opsK_sound h
  refine ⟨n + 1, .normal, e', s', ?_, h3⟩
  simp only [arun, runOps_more (acall_succ X n) h1]
  rw [if_pos (stable_full h2 h4)]
 | seq a b iha ihb =>
  intro K e s h
  obtain ⟨n, x, e1, s1, h1, h2⟩ := iha h
  cases x with
  | normal =>
   obtain ⟨m, y, e2, s2, h3, h4⟩ := ihb h2
   refine ⟨max n m + 1, y, e2, s2, ?_, h4⟩
   simp only [arun]
   rw [arun_more (acall_more X (show n ≤ max n m + 1 by omega)) (Nat.le_max_left n m) h1]
   simp only
   exact arun_more (acall_more X (show m ≤ max n m + 1 by omega)) (Nat.le_max_right n m) h3
  | exit id =>
   refine ⟨n + 1, .exit id, e1, s1, ?_, h2⟩
   simp only [arun]
   rw [arun_more (acall_succ X n) (Nat.le_refl n) h1]
  | ret =>
   refine ⟨n + 1, .ret, e1, s1, ?_, h2⟩
   simp only [arun]
   rw [arun_more (acall_succ X n) (Nat.le_refl n) h1]
 | cond x a b iha ihb =>
  intro K e s h
  obtain ⟨t, h1, h2, h3⟩ := condV_elim h
  cases t with
  | true =>
   obtain ⟨n, x', e1, s1, h4, h5⟩ := iha (h2 rfl)
   refine ⟨n + 1, x', e1, s1, ?_, h5⟩
   simp only [arun, h1, if_true]
   exact arun_more (acall_succ X n) (Nat.le_refl n) h4
  | false =>
   obtain ⟨n, x', e1, s1, h4, h5⟩ := ihb (h3 rfl)
   refine ⟨n + 1, x', e1, s1, ?_, h5⟩
   simp only [arun, h1, Bool.false_eq_true, if_false]
   exact arun_more (acall_succ X n) (Nat.le_refl n) h4
 | block id b ih =>
  intro K e s h
  obtain ⟨n, x, e1, s1, h1, h2⟩ := ih h
  cases x with
  | normal =>
   refine ⟨n + 1, .normal, e1, s1, ?_, h2⟩
   simp only [arun]
   rw [arun_more (acall_succ X n) (Nat.le_refl n) h1]
  | exit id' =>
   simp only [blockK] at h2
   by_cases he : id' = id
   ·rw [if_pos he] at h2
    refine ⟨n + 1, .normal, e1, s1, ?_, h2⟩
    simp only [arun]
    rw [arun_more (acall_succ X n) (Nat.le_refl n) h1]
    simp only [he, if_true]
   ·rw [if_neg he] at h2
    refine ⟨n + 1, .exit id', e1, s1, ?_, h2⟩
    simp only [arun]
    rw [arun_more (acall_succ X n) (Nat.le_refl n) h1]
    simp only [he, if_false]
  | ret =>
   refine ⟨n + 1, .ret, e1, s1, ?_, h2⟩
   simp only [arun]
   rw [arun_more (acall_succ X n) (Nat.le_refl n) h1]
 | loop b ih => intro K e s h; exact h
 | exit id => intro K e s h; exact ⟨1, .exit id, e, s, rfl, h⟩
 | scope b ih =>
  intro K e s h
  obtain ⟨n, x, e1, s1, h1, h2⟩ := ih h
  refine ⟨n + 1, x, e1, s1, ?_, h2⟩
  simp only [arun]
  exact arun_more (acall_succ X n) (Nat.le_refl n) h1
 | ret => intro K e s h; exact ⟨1, .ret, e, s, rfl, h⟩
/-- A loop is its first round, and the loop again. -/
theorem loop_step {b : ACode} {K : AExit → AEnv → ASt → Prop} {e : AEnv} {s : ASt} (h : aw X b (thenK (fun e s => Runs X (.loop b) e s K) K) e s) : Runs X (.loop b) e s K := by
 obtain ⟨n, x, e1, s1, h1, h2⟩ := aw_sound h
 cases x with
 | normal =>
  obtain ⟨m, y, e2, s2, h3, h4⟩ := h2
  refine ⟨max n m + 1, y, e2, s2, ?_, h4⟩
  simp only [arun]
  rw [arun_more (acall_more X (show n ≤ max n m + 1 by omega)) (Nat.le_max_left n m) h1]
  simp only
  exact arun_more (acall_more X (show m ≤ max n m + 1 by omega)) (Nat.le_max_right n m) h3
 | exit id =>
  refine ⟨n + 1, .exit id, e1, s1, ?_, h2⟩
  simp only [arun]
  rw [arun_more (acall_succ X n) (Nat.le_refl n) h1]
 | ret =>
  refine ⟨n + 1, .ret, e1, s1, ?_, h2⟩
  simp only [arun]
  rw [arun_more (acall_succ X n) (Nat.le_refl n) h1]
theorem thenK_mono {N N' : AEnv → ASt → Prop} {K K' : AExit → AEnv → ASt → Prop} (h : ∀ e s, N e s → N' e s) (hk : ∀ x e s, K x e s → K' x e s) : ∀ x e s, thenK N K x e s → thenK N' K' x e s := by
 intro x e s hx
 cases x <;> first | exact h _ _ hx | exact hk _ _ _ hx
/-- A loop, by a measure. -/
theorem loop_rule {b : ACode} {K : AExit → AEnv → ASt → Prop} (I : Nat → AEnv → ASt → Prop) (h : ∀ n e s, I n e s → aw X b (thenK (fun e' s' => ∃ m, m < n ∧ I m e' s') K) e s) : ∀ n e s, I n e s → Runs X (.loop b) e s K := by
 intro n
 induction n using Nat.strongRecOn with
 | _ n ih =>
  intro e s hI
  obtain ⟨k, x, e1, s1, h1, h2⟩ := aw_sound (h n e s hI)
  cases x with
  | normal =>
   obtain ⟨m, hm, hI'⟩ := h2
   obtain ⟨k2, y, e2, s2, h3, h4⟩ := ih m hm e1 s1 hI'
   refine ⟨max k k2 + 1, y, e2, s2, ?_, h4⟩
   simp only [arun]
   rw [arun_more (acall_more X (show k ≤ max k k2 + 1 by omega)) (Nat.le_max_left k k2) h1]
   simp only
   exact arun_more (acall_more X (show k2 ≤ max k k2 + 1 by omega)) (Nat.le_max_right k k2) h3
  | exit id =>
   refine ⟨k + 1, .exit id, e1, s1, ?_, h2⟩
   simp only [arun]
   rw [arun_more (acall_succ X k) (Nat.le_refl k) h1]
  | ret =>
   refine ⟨k + 1, .ret, e1, s1, ?_, h2⟩
   simp only [arun]
   rw [arun_more (acall_succ X k) (Nat.le_refl k) h1]
/-- How a call that defers nothing ends. -/
def retK (rs : List ARes) (old : List (Nat × List AV)) (K : AV → ASt → Prop) : AExit → AEnv → ASt → Prop
 | .exit _, _, _ => False
 | _, e, s => s.dfr = [] ∧ optK (resV e s rs) fun l => K (oneOf l) { s with dfr := old }
/-- A call of a function that is compiled, and defers nothing. -/
theorem call_code {f : Nat} {l : List AV} {s : ASt} {K : AV → ASt → Prop} (fn : AFun) (hf : X.code f = some fn) (ho : X.orc f = none) (hn : l.length ≤ fn.nt) (h : aw X fn.body (retK fn.results s.dfr K) (argEnv 0 l) { s with dfr := [] }) : Does X f l s K := by
 obtain ⟨n, x, e1, s1, h1, h2⟩ := aw_sound h
 have fin : s1.dfr = [] ∧ optK (resV e1 s1 fn.results) (fun l => K (oneOf l) { s1 with dfr := s.dfr }) → (∀ id, x ≠ .exit id) → Does X f l s K := by
  rintro ⟨hd, h3⟩ hx
  obtain ⟨r, h4, h5⟩ := optK_some h3
  refine ⟨n + 1, oneOf r, { s1 with dfr := s.dfr }, ?_, h5⟩
  simp only [acall, ho, hf, hn, if_true, h1]
  have he : ({ s1 with dfr := [] } : ASt) = s1 := by obtain ⟨a, b, c⟩ := s1; simp only at hd; subst hd; rfl
  cases x with
  | exit id => exact absurd rfl (hx id)
  | normal => simp only [finish, he, hd, runDfr, h4]
  | ret => simp only [finish, he, hd, runDfr, h4]
 cases x with
 | exit id => exact h2.elim
 | normal => exact fin h2 (by simp)
 | ret => exact fin h2 (by simp)
theorem call_orc {f : Nat} {l : List AV} {s : ASt} {K : AV → ASt → Prop} {g : List AV → ASt → Option (AV × ASt)} (ho : X.orc f = some g) (h : optK (g l s) fun r => K r.1 r.2) : Does X f l s K := by
 obtain ⟨⟨v, s'⟩, h1, h2⟩ := optK_some h
 refine ⟨1, v, s', ?_, h2⟩
 simp only [acall, ho]
 exact h1
end
abbrev Hp := Nat → Option AObj
def upd (h : Hp) (i : Nat) (o : AObj) : Hp := fun j => if j = i then some o else h j
theorem upd_same (h : Hp) (i : Nat) (o : AObj) : upd h i o i = some o := by simp [upd]
theorem upd_ne (h : Hp) {i j : Nat} (o : AObj) (hn : j ≠ i) : upd h i o j = h j := by simp [upd, hn]
theorem upd_upd (h : Hp) (i : Nat) (a b : AObj) : upd (upd h i a) i b = upd h i b := by
 funext j; simp only [upd]; split <;> rfl
theorem upd_self (h : Hp) (i : Nat) (a : AObj) (hi : h i = some a) : upd h i a = h := by
 funext j; simp only [upd]; split
 ·rename_i e; rw [e, hi]
 ·rfl
theorem upd_comm (h : Hp) {i j : Nat} (a b : AObj) (hn : i ≠ j) : upd (upd h i a) j b = upd (upd h j b) i a := by
 funext k; simp only [upd]; split
 ·rename_i e; subst e; rw [if_neg (Ne.symm hn)]
 ·rfl
theorem set_mk (h : Hp) (c : Nat) (d : List (Nat × List AV)) (i : Nat) (o : AObj) : ASt.set ⟨h, c, d⟩ i o = ⟨upd h i o, c, d⟩ := rfl
def preH (b : Nat) : List (Nat × List AV) → Hp → Hp
 | [], h => h
 | (k, z) :: ps, h => preH b ps (upd h (b + k) (.cells z))
theorem preSet_mk (b : Nat) : ∀ (pre : List (Nat × List AV)) (h : Hp) (c : Nat) (d : List (Nat × List AV)), preSet b pre ⟨h, c, d⟩ = ⟨preH b pre h, c, d⟩
 | [], _, _, _ => rfl
 | (k, z) :: ps, h, c, d => preSet_mk b ps (upd h (b + k) (.cells z)) c d
theorem enter_mk (h : Hp) (c : Nat) (d : List (Nat × List AV)) (na : Nat) (pre : List (Nat × List AV)) : ASt.enter ⟨h, c, d⟩ na pre = ⟨preH c pre h, c + na, d⟩ := preSet_mk c pre h (c + na) d
theorem enter_zero (h : Hp) (c : Nat) (d : List (Nat × List AV)) : ASt.enter ⟨h, c, d⟩ 0 [] = ⟨h, c, d⟩ := rfl
theorem ev_tmp (e : AEnv) (t : Nat) : ev e (.tmp t) = e.get t := rfl
theorem ev_val (e : AEnv) (v : AV) : ev e (.val v) = v := rfl
theorem get_cons (e : AEnv) (d t : Nat) (v : AV) : AEnv.get ((d, v) :: e) t = if d = t then v else e.get t := rfl
theorem get_here (e : AEnv) (d : Nat) (v : AV) : AEnv.get ((d, v) :: e) d = v := by simp [AEnv.get]
theorem put_some (e : AEnv) (d : Nat) (v : AV) : AEnv.put e (some d) v = (d, v) :: e := rfl
theorem put_none (e : AEnv) (v : AV) : AEnv.put e none v = e := rfl
theorem stable_nil (l : List Log) : stable [] l = True := rfl
theorem condV_split {b : Bool} {p q : Prop} (h : b = true → p) (h' : b = false → q) : condV (.bool b) p q := by
 cases b with
 | true => exact h rfl
 | false => exact h' rfl
theorem wrap_i64 {n : Int} (h : -9223372036854775808 ≤ n) (h' : n ≤ 9223372036854775807) : IntKind.wrap .i64 n = n := by
 simp only [IntKind.wrap, IntKind.signed, IntKind.bits]
 first
  | (split <;> omega)
  | (simp; omega)
  | omega
theorem maskOf_nil : maskOf [] = [] := rfl
theorem opsK_nil (X : Ctx) (b i : Nat) (m : List Nat) (lg : List Log) (e : AEnv) (s : ASt) (K : AEnv → ASt → List Log → Prop) : opsK X b m [] i lg e s K = K e s lg := rfl
theorem opsK_cons0 (X : Ctx) (b i : Nat) (o : AOper) (os : List AOper) (lg : List Log) (e : AEnv) (s : ASt) (K : AEnv → ASt → List Log → Prop) : opsK X b [] (o :: os) i lg e s K =
  guardK e o.guard (opK X b o.op e s fun v s' => opsK X b [] os 0 lg (e.put o.dst v) s' K) (opsK X b [] os 0 lg (e.put o.dst udf) s K) := by
 have key : ∀ (os : List AOper) (i j : Nat) (lg : List Log) (e : AEnv) (s : ASt), opsK X b [] os i lg e s K = opsK X b [] os j lg e s K := by
  intro os
  induction os with
  | nil => intros; rfl
  | cons o os ih =>
   intro i j lg e s
   simp only [opsK, List.contains_nil, Bool.false_eq_true, if_false]
   rw [ih (i + 1) (j + 1)]
   congr 2
   funext v s'
   exact ih _ _ _ _ _
 simp only [opsK, List.contains_nil, Bool.false_eq_true, if_false]
 rw [key os (i + 1) 0]
 congr 2
 funext v s'
 exact key _ _ _ _ _ _
theorem opK_call (X : Ctx) (b : Nat) (f : AOpd) (args : List AOpd) (e : AEnv) (s : ASt) (K : AV → ASt → Prop) : opK X b (.call f args) e s K = callK X s K (callV (ev e) f args) := rfl
theorem callV_val (ρ : AOpd → AV) (f : AOpd) (args : List AOpd) (g : Nat) (a c : List AV) (h : ρ f = .func g a c) : callV ρ f args = some (g, a ++ args.map ρ ++ c) := by simp [callV, h]
/-! ### Whole numbers, texts -/
section
variable (k : IntKind) (a b : Int) (s t : List UInt8)
theorem bin_add : binV .add (.int k a) (.int k b) = some (.int k (k.wrap (a + b))) := by simp [binV, intV]
theorem bin_sub : binV .sub (.int k a) (.int k b) = some (.int k (k.wrap (a - b))) := by simp [binV, intV]
theorem bin_mul : binV .mul (.int k a) (.int k b) = some (.int k (k.wrap (a * b))) := by simp [binV, intV]
theorem bin_quo : binV .quo (.int k a) (.int k b) = if b = 0 then none else some (.int k (k.wrap (a.tdiv b))) := by simp [binV, intV]
theorem bin_rem : binV .rem (.int k a) (.int k b) = if b = 0 then none else some (.int k (a.tmod b)) := by simp [binV, intV]
theorem bin_eql : binV .eql (.int k a) (.int k b) = some (.bool (decide (a = b))) := by simp [binV, intV]
theorem bin_neq : binV .neq (.int k a) (.int k b) = some (.bool (decide (a ≠ b))) := by simp [binV, intV]
theorem bin_lss : binV .lss (.int k a) (.int k b) = some (.bool (decide (a < b))) := by simp [binV, intV]
theorem bin_leq : binV .leq (.int k a) (.int k b) = some (.bool (decide (a ≤ b))) := by simp [binV, intV]
theorem bin_gtr : binV .gtr (.int k a) (.int k b) = some (.bool (decide (a > b))) := by simp [binV, intV]
theorem bin_geq : binV .geq (.int k a) (.int k b) = some (.bool (decide (a ≥ b))) := by simp [binV, intV]
theorem bin_cat : binV .add (.str s) (.str t) = if s.length + t.length ≤ 9223372036854775807 then some (.str (s ++ t)) else none := rfl
theorem bin_seq : binV .eql (.str s) (.str t) = some (.bool (decide (s = t))) := rfl
theorem bin_sne : binV .neq (.str s) (.str t) = some (.bool (decide (s ≠ t))) := rfl
theorem bin_sls : binV .lss (.str s) (.str t) = some (.bool (Op.bytesLess s t)) := rfl
theorem un_not (x : Bool) : unV .not (.bool x) = some (.bool (!x)) := rfl
theorem un_neg : unV .neg (.int k a) = some (.int k (k.wrap (0 - a))) := rfl
theorem len_str : lenV true (.str s) = some (.int .i64 s.length) := rfl
theorem len_slice (o : Own) (es : List AV) : lenV false (.slice o es) = some (.int .i64 es.length) := rfl
theorem wanted_bool (x w : Bool) (e : AEnv) (t : Nat) (h : e.get t = .bool x) : wanted e (some (t, w)) = (x == w) := by simp [wanted, h]
theorem natOf_int (h : 0 ≤ a) : natOf (.int k a) = some a.toNat := by simp [natOf, h]
theorem strAt_nat (n : Nat) : strAt (.int k (n : Int)) (.str s) = (s[n]?).map fun b => .int .u8 b.toNat := by simp [strAt, natOf]
theorem strAt_int (h : 0 ≤ a) : strAt (.int k a) (.str s) = (s[a.toNat]?).map fun b => .int .u8 b.toNat := by simp [strAt, natOf, h]
theorem byte_eq (x y : UInt8) : ((x.toNat : Int) = (y.toNat : Int)) = (x = y) := by
 apply propext
 constructor
 ·intro h; exact UInt8.toNat_inj.1 (by omega)
 ·intro h; rw [h]
theorem natOf_nat (n : Nat) : natOf (.int k (n : Int)) = some n := by simp [natOf]
end
/-! ### Veiled twins: what stands behind is left alone -/
universe u
inductive Veil {α : Sort u} (a : α) : Type
 | mk
def OptK {α : Type} (x : Option α) (K : α → Prop) (_ : Veil K) : Prop := optK x K
def CondV (v : AV) (p q : Prop) (_ : Veil p) (_ : Veil q) : Prop := condV v p q
def DoesK (X : Ctx) (f : Nat) (l : List AV) (s : ASt) (K : AV → ASt → Prop) (_ : Veil K) : Prop := Does X f l s K
def CallK (X : Ctx) (s : ASt) (K : AV → ASt → Prop) (r : Option (Nat × List AV)) (_ : Veil K) : Prop := callK X s K r
def OpK (X : Ctx) (b : Nat) (o : AOp) (e : AEnv) (s : ASt) (K : AV → ASt → Prop) (_ : Veil K) : Prop := opK X b o e s K
def OpsK (X : Ctx) (b : Nat) (m : List Nat) (ops : List AOper) (i : Nat) (lg : List Log) (e : AEnv) (s : ASt) (K : AEnv → ASt → List Log → Prop) (_ : Veil ops) (_ : Veil K) : Prop := opsK X b m ops i lg e s K
def Aw (X : Ctx) (c : ACode) (K : AExit → AEnv → ASt → Prop) (_ : Veil c) (_ : Veil K) (e : AEnv) (s : ASt) : Prop := aw X c K e s
def LoopK (X : Ctx) (c : ACode) (K : AExit → AEnv → ASt → Prop) (_ : Veil c) (_ : Veil K) (e : AEnv) (s : ASt) : Prop := Runs X (.loop c) e s K
def ThenK (N : AEnv → ASt → Prop) (K : AExit → AEnv → ASt → Prop) (_ : Veil N) (_ : Veil K) : AExit → AEnv → ASt → Prop := thenK N K
def BlockK (id : Nat) (K : AExit → AEnv → ASt → Prop) (_ : Veil K) : AExit → AEnv → ASt → Prop := blockK id K
def RetK (rs : List ARes) (old : List (Nat × List AV)) (K : AV → ASt → Prop) (_ : Veil K) : AExit → AEnv → ASt → Prop := retK rs old K
section
variable {X : Ctx} {K : AExit → AEnv → ASt → Prop} {vK : Veil K} {e : AEnv} {s : ASt}
theorem Aw_skip {v : Veil ACode.skip} : Aw X .skip K v vK e s = K .normal e s := rfl
theorem Aw_ret {v : Veil ACode.ret} : Aw X .ret K v vK e s = K .ret e s := rfl
theorem Aw_exit {id : Nat} {v : Veil (ACode.exit id)} : Aw X (.exit id) K v vK e s = K (.exit id) e s := rfl
theorem Aw_seq {a b : ACode} {v : Veil (ACode.seq a b)} : Aw X (.seq a b) K v vK e s = Aw X a (ThenK (Aw X b K .mk .mk) K .mk .mk) .mk .mk e s := rfl
theorem Aw_cond {x : AOpd} {a b : ACode} {v : Veil (ACode.cond x a b)} : Aw X (.cond x a b) K v vK e s = CondV (ev e x) (Aw X a K .mk .mk e s) (Aw X b K .mk .mk e s) .mk .mk := rfl
theorem Aw_block {id : Nat} {b : ACode} {v : Veil (ACode.block id b)} : Aw X (.block id b) K v vK e s = Aw X b (BlockK id K .mk) .mk .mk e s := rfl
theorem Aw_scope {b : ACode} {v : Veil (ACode.scope b)} : Aw X (.scope b) K v vK e s = Aw X b K .mk .mk e s := rfl
theorem Aw_loop {b : ACode} {v : Veil (ACode.loop b)} : Aw X (.loop b) K v vK e s = LoopK X b K .mk .mk e s := rfl
theorem Aw_region0 {h : Hp} {c na : Nat} {d : List (Nat × List AV)} {pre : List (Nat × List AV)} {ops : List AOper} {v : Veil (ACode.region na pre ops [])} : Aw X (.region na pre ops []) K v vK e ⟨h, c, d⟩ =
  OpsK X c [] ops 0 [] e (ASt.enter ⟨h, c, d⟩ na pre) (fun e' s' _ => K .normal e' s') .mk .mk := by
 show opsK X c (maskOf []) ops 0 [] e _ (fun e' s' lg => stable [] lg ∧ K .normal e' s') = opsK X c [] ops 0 [] e _ _
 simp only [maskOf_nil, stable_nil, true_and]
theorem Aw_region1 {h : Hp} {c na : Nat} {d : List (Nat × List AV)} {pre : List (Nat × List AV)} {ops : List AOper} {p : Nat × Nat} {ps : List (Nat × Nat)} {v : Veil (ACode.region na pre ops (p :: ps))} : Aw X (.region na pre ops (p :: ps)) K v vK e ⟨h, c, d⟩ =
  OpsK X c (maskOf (p :: ps)) ops 0 [] e (ASt.enter ⟨h, c, d⟩ na pre) (fun e' s' lg => Stable (p :: ps) lg ∧ K .normal e' s') .mk .mk := rfl
theorem ThenK_normal {N : AEnv → ASt → Prop} {vN : Veil N} : ThenK N K vN vK .normal e s = N e s := rfl
theorem ThenK_exit {N : AEnv → ASt → Prop} {vN : Veil N} {id : Nat} : ThenK N K vN vK (.exit id) e s = K (.exit id) e s := rfl
theorem ThenK_ret {N : AEnv → ASt → Prop} {vN : Veil N} : ThenK N K vN vK .ret e s = K .ret e s := rfl
theorem BlockK_normal {i : Nat} : BlockK i K vK .normal e s = K .normal e s := rfl
theorem BlockK_exit {i j : Nat} : BlockK i K vK (.exit j) e s = if j = i then K .normal e s else K (.exit j) e s := rfl
theorem BlockK_ret {i : Nat} : BlockK i K vK .ret e s = K .ret e s := rfl
theorem RetK_ret {rs : List ARes} {old : List (Nat × List AV)} {K : AV → ASt → Prop} {vK : Veil K} {h : Hp} {c : Nat} : RetK rs old K vK .ret e ⟨h, c, []⟩ = OptK (resV e ⟨h, c, []⟩ rs) (fun l => K (oneOf l) ⟨h, c, old⟩) .mk := by simp [RetK, retK, OptK]
theorem RetK_normal {rs : List ARes} {old : List (Nat × List AV)} {K : AV → ASt → Prop} {vK : Veil K} {h : Hp} {c : Nat} : RetK rs old K vK .normal e ⟨h, c, []⟩ = OptK (resV e ⟨h, c, []⟩ rs) (fun l => K (oneOf l) ⟨h, c, old⟩) .mk := by simp [RetK, retK, OptK]
theorem OptK_some {α : Type} {a : α} {K : α → Prop} {vK : Veil K} : OptK (some a) K vK = K a := rfl
theorem CondV_true {p q : Prop} {vp : Veil p} {vq : Veil q} : CondV (.bool true) p q vp vq = p := rfl
theorem CondV_false {p q : Prop} {vp : Veil p} {vq : Veil q} : CondV (.bool false) p q vp vq = q := rfl
theorem CallK_some {K : AV → ASt → Prop} {vK : Veil K} {g : Nat} {l : List AV} : CallK X s K (some (g, l)) vK = DoesK X g l s K .mk := rfl
end
theorem CondV_split {b : Bool} {p q : Prop} {vp : Veil p} {vq : Veil q} (h : b = true → p) (h' : b = false → q) : CondV (.bool b) p q vp vq := by
 cases b with
 | true => exact h rfl
 | false => exact h' rfl
theorem DoesK_of {X : Ctx} {f : Nat} {l : List AV} {s : ASt} {K K' : AV → ASt → Prop} {vK : Veil K} (h : Does X f l s K') (hk : ∀ v s', K' v s' → K v s') : DoesK X f l s K vK := Does.mono h hk
theorem call_aw {X : Ctx} {f : Nat} {l : List AV} {h : Hp} {c : Nat} {d : List (Nat × List AV)} {K : AV → ASt → Prop} {nt : Nat} {rs : List ARes} (body : ACode) (hf : X.code f = some ⟨nt, rs, body⟩) (ho : X.orc f = none) (hn : Nat.ble l.length nt = true)
  (hw : Aw X body (RetK rs d K .mk) .mk .mk (argEnv 0 l) ⟨h, c, []⟩) : Does X f l ⟨h, c, d⟩ K := call_code _ hf ho (Nat.le_of_ble_eq_true hn) hw
/-- The loop's invariant holds again, and its measure is less. -/
def Again (I : Nat → AEnv → ASt → Prop) (_ : Veil I) (n : Nat) (e : AEnv) (s : ASt) : Prop := ∃ m, m < n ∧ I m e s
theorem Again.of {I : Nat → AEnv → ASt → Prop} {v : Veil I} {n : Nat} {e : AEnv} {s : ASt} (m : Nat) (h : m < n) (hI : I m e s) : Again I v n e s := ⟨m, h, hI⟩
theorem LoopK_rule {X : Ctx} {b : ACode} {K : AExit → AEnv → ASt → Prop} {v : Veil b} {vK : Veil K} (I : Nat → AEnv → ASt → Prop) (n : Nat) {e : AEnv} {s : ASt} (h0 : I n e s)
  (h : ∀ n e s, I n e s → Aw X b (ThenK (Again I .mk n) K .mk .mk) .mk .mk e s) : LoopK X b K v vK e s := loop_rule I h n e s h0
theorem LoopK_step {X : Ctx} {b : ACode} {K : AExit → AEnv → ASt → Prop} {v : Veil b} {vK : Veil K} {e : AEnv} {s : ASt} (h : Aw X b (ThenK (LoopK X b K .mk .mk) K .mk .mk) .mk .mk e s) : LoopK X b K v vK e s := loop_step h
/-! ### Cuts -/
def boundsA (len cap : Nat) (lo hi : Option AV) : Option (Nat × Nat) :=
 match (match hi with | some x => natOf x | none => some len) with
 | some h => if h ≤ cap then
   match (match lo with | some x => natOf x | none => some 0) with
   | some l => if l ≤ h then some (l, h) else none
   | none => none
  else none
 | none => none
def cutStr (lo hi : Option AV) : AV → Option AV
 | .str s => (boundsA s.length s.length lo hi).map fun (l, h) => .str ((s.take h).drop l)
 | _ => none
def cutSl (sz : Nat) (lo hi : Option AV) : AV → Option AV
 | .slice o es => if headSz sz es then (boundsA es.length es.length lo hi).map fun (l, h) => .slice (cutOwn o l h es.length) ((es.take h).drop l) else none
 | _ => none
def cutArr (n sz : Nat) (lo hi : Option AV) : AV → Option AV
 | .ptr id off => (boundsA n n lo hi).map fun (l, h) => .mslice id (off + l * sz) (h - l) (n - l)
 | _ => none
theorem boundsV_eq (ρ : AOpd → AV) (n m : Nat) (lo hi : Option AOpd) : boundsV ρ n m lo hi = boundsA n m (lo.map ρ) (hi.map ρ) := by
 cases lo <;> cases hi <;> rfl
theorem slStrV_eq (ρ : AOpd → AV) (lo hi : Option AOpd) (v : AV) : slStrV ρ lo hi v = cutStr (lo.map ρ) (hi.map ρ) v := by
 cases v <;> simp only [slStrV, cutStr, boundsV_eq]
theorem slV_eq (ρ : AOpd → AV) (sz : Nat) (lo hi : Option AOpd) (v : AV) : slV ρ sz lo hi v = cutSl sz (lo.map ρ) (hi.map ρ) v := by
 cases v <;> simp only [slV, cutSl, boundsV_eq]
theorem slArrV_eq (ρ : AOpd → AV) (n sz : Nat) (lo hi : Option AOpd) (v : AV) : slArrV ρ n sz lo hi v = cutArr n sz (lo.map ρ) (hi.map ρ) v := by
 cases v <;> simp only [slArrV, cutArr, boundsV_eq]
theorem cut_lo (k : IntKind) (j : Nat) (s : List UInt8) : cutStr (some (.int k (j : Int))) none (.str s) = if j ≤ s.length then some (.str (s.drop j)) else none := by
 simp only [cutStr, boundsA, natOf_nat, Nat.le_refl, if_true]
 split <;> simp
theorem cut_hi (k : IntKind) (j : Nat) (s : List UInt8) : cutStr none (some (.int k (j : Int))) (.str s) = if j ≤ s.length then some (.str (s.take j)) else none := by
 simp only [cutStr, boundsA, natOf_nat, Nat.zero_le, if_true]
 split <;> simp
theorem cut_both (k k' : IntKind) (i j : Nat) (s : List UInt8) : cutStr (some (.int k (i : Int))) (some (.int k' (j : Int))) (.str s) = if i ≤ j ∧ j ≤ s.length then some (.str ((s.take j).drop i)) else none := by
 simp only [cutStr, boundsA, natOf_nat]
 by_cases h1 : j ≤ s.length <;> by_cases h2 : i ≤ j <;> simp [h1, h2]
theorem cut_none (s : List UInt8) : cutStr none none (.str s) = some (.str s) := by
 simp [cutStr, boundsA]
/-! ### One operation -/
def cIntV (k : IntKind) : AV → Option AV
 | .int _ n => some (.int k (k.wrap n))
 | _ => none
def cRuneV : AV → Option AV
 | .int _ n => some (.str (Utf8.encode n).data.toList)
 | _ => none
def cStrV : AV → Option AV
 | .str s => some (.str s)
 | _ => none
def boxV (b k : Nat) (s : ASt) (v : AV) : Option (AV × ASt) := if v.okc then some (.ptr (b + k) 0, s.set (b + k) (.cells v.cells)) else none
def appK (b k sz bytes : Nat) (s : ASt) (x y : AV) : Option (AV × ASt) := match x, elemsV y with
 | .slice o es, some new => appV b k sz bytes s o es new
 | _, _ => none
def deferV (s : ASt) (l : List AV) : AV → Option (AV × ASt)
 | .func g first captured => some (udf, { s with dfr := (g, first ++ l ++ captured) :: s.dfr })
 | _ => none
section
variable {X : Ctx} {b : Nat} {e : AEnv} {h : Hp} {c : Nat} {d : List (Nat × List AV)} {s : ASt} {K : AV → ASt → Prop} {vK : Veil K}
theorem OpK_move (x : AOpd) : OpK X b (.move x) e ⟨h, c, d⟩ K vK = OptK (some (ev e x)) (fun v => K v ⟨h, c, d⟩) .mk := by
 unfold OpK opK; first | rfl | (simp only [AOp.kd, opV, OptK]; first | rfl | (cases ev e x <;> rfl))
theorem OpK_pick (z x y : AOpd) : OpK X b (.pick z x y) e ⟨h, c, d⟩ K vK = OptK (pickV (ev e x) (ev e y) (ev e z)) (fun v => K v ⟨h, c, d⟩) .mk := by
 unfold OpK opK; first | rfl | (simp only [AOp.kd, opV, OptK]; first | rfl | (cases ev e x <;> rfl))
theorem OpK_build (z : List AV) (ps : List (Nat × Nat × AOpd)) : OpK X b (.build z ps) e ⟨h, c, d⟩ K vK = OptK ((fillV (ev e) z ps).map AV.agg) (fun v => K v ⟨h, c, d⟩) .mk := by
 unfold OpK opK; first | rfl | (simp only [AOp.kd, opV, OptK]; first | rfl | (cases ev e x <;> rfl))
theorem OpK_buildSlice (sz : Nat) (ps : List AOpd) : OpK X b (.buildSlice sz ps) e ⟨h, c, d⟩ K vK = OptK ((partsV (ev e) sz ps).map fun es => .slice .full es) (fun v => K v ⟨h, c, d⟩) .mk := by
 unfold OpK opK; first | rfl | (simp only [AOp.kd, opV, OptK]; first | rfl | (cases ev e x <;> rfl))
theorem OpK_load (g : Bool) (sz : Nat) (x : AOpd) : OpK X b (.load g sz x) e ⟨h, c, d⟩ K vK = OptK (ldV g sz h (ev e x)) (fun v => K v ⟨h, c, d⟩) .mk := by
 unfold OpK opK; first | rfl | (simp only [AOp.kd, opV, OptK]; first | rfl | (cases ev e x <;> rfl))
theorem OpK_nilCheck (x : AOpd) : OpK X b (.nilCheck x) e ⟨h, c, d⟩ K vK = OptK (nilChk (ev e x)) (fun v => K v ⟨h, c, d⟩) .mk := by
 unfold OpK opK; first | rfl | (simp only [AOp.kd, opV, OptK]; first | rfl | (cases ev e x <;> rfl))
theorem OpK_bin (op : BinOp) (x y : AOpd) : OpK X b (.bin op x y) e ⟨h, c, d⟩ K vK = OptK (binV op (ev e x) (ev e y)) (fun v => K v ⟨h, c, d⟩) .mk := by
 unfold OpK opK; first | rfl | (simp only [AOp.kd, opV, OptK]; first | rfl | (cases ev e x <;> rfl))
theorem OpK_binNil (fn neq : Bool) (x y : AOpd) : OpK X b (.binNil fn neq x y) e ⟨h, c, d⟩ K vK = OptK ((nilV fn (ev e x) (ev e y)).map fun r => .bool (neq != r)) (fun v => K v ⟨h, c, d⟩) .mk := by
 unfold OpK opK; first | rfl | (simp only [AOp.kd, opV, OptK]; first | rfl | (cases ev e x <;> rfl))
theorem OpK_binEq (t : KeyT) (neq : Bool) (x y : AOpd) : OpK X b (.binEq t neq x y) e ⟨h, c, d⟩ K vK = OptK ((eqKey t (ev e x) (ev e y)).map fun r => .bool (neq != r)) (fun v => K v ⟨h, c, d⟩) .mk := by
 unfold OpK opK; first | rfl | (simp only [AOp.kd, opV, OptK]; first | rfl | (cases ev e x <;> rfl))
theorem OpK_un (op : UnOp) (x : AOpd) : OpK X b (.un op x) e ⟨h, c, d⟩ K vK = OptK (unV op (ev e x)) (fun v => K v ⟨h, c, d⟩) .mk := by
 unfold OpK opK; first | rfl | (simp only [AOp.kd, opV, OptK]; first | rfl | (cases ev e x <;> rfl))
theorem OpK_convInt (k : IntKind) (x : AOpd) : OpK X b (.convInt k x) e ⟨h, c, d⟩ K vK = OptK (cIntV k (ev e x)) (fun v => K v ⟨h, c, d⟩) .mk := by
 unfold OpK opK; first | rfl | (simp only [AOp.kd, opV, OptK]; first | rfl | (cases ev e x <;> rfl))
theorem OpK_convRune (x : AOpd) : OpK X b (.convRune x) e ⟨h, c, d⟩ K vK = OptK (cRuneV (ev e x)) (fun v => K v ⟨h, c, d⟩) .mk := by
 unfold OpK opK; first | rfl | (simp only [AOp.kd, opV, OptK]; first | rfl | (cases ev e x <;> rfl))
theorem OpK_convStr (x : AOpd) : OpK X b (.convStr x) e ⟨h, c, d⟩ K vK = OptK (cStrV (ev e x)) (fun v => K v ⟨h, c, d⟩) .mk := by
 unfold OpK opK; first | rfl | (simp only [AOp.kd, opV, OptK]; first | rfl | (cases ev e x <;> rfl))
theorem OpK_convBytes (x : AOpd) : OpK X b (.convBytes x) e ⟨h, c, d⟩ K vK = OptK (strOfV h (ev e x)) (fun v => K v ⟨h, c, d⟩) .mk := by
 unfold OpK opK; first | rfl | (simp only [AOp.kd, opV, OptK]; first | rfl | (cases ev e x <;> rfl))
theorem OpK_mkfunc (f : Nat) (fi ca : List AOpd) : OpK X b (.mkfunc f fi ca) e ⟨h, c, d⟩ K vK = OptK (some (.func f (fi.map (ev e)) (ca.map (ev e)))) (fun v => K v ⟨h, c, d⟩) .mk := by
 unfold OpK opK; first | rfl | (simp only [AOp.kd, opV, OptK]; first | rfl | (cases ev e x <;> rfl))
theorem OpK_sliceStr (x : AOpd) (lo hi : Option AOpd) : OpK X b (.sliceStr x lo hi) e ⟨h, c, d⟩ K vK = OptK (cutStr (lo.map (ev e)) (hi.map (ev e)) (ev e x)) (fun v => K v ⟨h, c, d⟩) .mk := by
 rw [← slStrV_eq]; rfl
theorem OpK_sliceSl (sz : Nat) (x : AOpd) (lo hi : Option AOpd) : OpK X b (.sliceSl sz x lo hi) e ⟨h, c, d⟩ K vK = OptK (cutSl sz (lo.map (ev e)) (hi.map (ev e)) (ev e x)) (fun v => K v ⟨h, c, d⟩) .mk := by
 rw [← slV_eq]; rfl
theorem OpK_sliceArr (n sz : Nat) (x : AOpd) (lo hi : Option AOpd) : OpK X b (.sliceArr n sz x lo hi) e ⟨h, c, d⟩ K vK = OptK (cutArr n sz (lo.map (ev e)) (hi.map (ev e)) (ev e x)) (fun v => K v ⟨h, c, d⟩) .mk := by
 rw [← slArrV_eq]; rfl
theorem OpK_fieldAddr (off : Nat) (x : AOpd) : OpK X b (.fieldAddr off x) e ⟨h, c, d⟩ K vK = OptK (fadV off (ev e x)) (fun v => K v ⟨h, c, d⟩) .mk := by
 unfold OpK opK; first | rfl | (simp only [AOp.kd, opV, OptK]; first | rfl | (cases ev e x <;> rfl))
theorem OpK_field (g : Bool) (sz off : Nat) (x : AOpd) : OpK X b (.field g sz off x) e ⟨h, c, d⟩ K vK = OptK (fldV g sz off (ev e x)) (fun v => K v ⟨h, c, d⟩) .mk := by
 unfold OpK opK; first | rfl | (simp only [AOp.kd, opV, OptK]; first | rfl | (cases ev e x <;> rfl))
theorem OpK_idxAddr (sz : Nat) (x i : AOpd) : OpK X b (.idxAddr sz x i) e ⟨h, c, d⟩ K vK = OptK (idxV sz (ev e i) (ev e x)) (fun v => K v ⟨h, c, d⟩) .mk := by
 unfold OpK opK; first | rfl | (simp only [AOp.kd, opV, OptK]; first | rfl | (cases ev e x <;> rfl))
theorem OpK_idxAddrArr (len sz : Nat) (x i : AOpd) : OpK X b (.idxAddrArr len sz x i) e ⟨h, c, d⟩ K vK = OptK (idxArrV len sz (ev e i) (ev e x)) (fun v => K v ⟨h, c, d⟩) .mk := by
 unfold OpK opK; first | rfl | (simp only [AOp.kd, opV, OptK]; first | rfl | (cases ev e x <;> rfl))
theorem OpK_idxStr (x i : AOpd) : OpK X b (.idxStr x i) e ⟨h, c, d⟩ K vK = OptK (strAt (ev e i) (ev e x)) (fun v => K v ⟨h, c, d⟩) .mk := by
 unfold OpK opK; first | rfl | (simp only [AOp.kd, opV, OptK]; first | rfl | (cases ev e x <;> rfl))
theorem OpK_idxArr (len : Nat) (g : Bool) (sz : Nat) (x i : AOpd) : OpK X b (.idxArr len g sz x i) e ⟨h, c, d⟩ K vK = OptK (aggAt len g sz (ev e i) (ev e x)) (fun v => K v ⟨h, c, d⟩) .mk := by
 unfold OpK opK; first | rfl | (simp only [AOp.kd, opV, OptK]; first | rfl | (cases ev e x <;> rfl))
theorem OpK_lookup (t : KeyT) (z : AV) (ok : Bool) (m i : AOpd) : OpK X b (.lookup t z ok m i) e ⟨h, c, d⟩ K vK = OptK (keyed t (ev e i) (lookM t z ok h (ev e i) (ev e m))) (fun v => K v ⟨h, c, d⟩) .mk := by
 unfold OpK opK; first | rfl | (simp only [AOp.kd, opV, OptK]; first | rfl | (cases ev e x <;> rfl))
theorem OpK_extract (n : Nat) (x : AOpd) : OpK X b (.extract n x) e ⟨h, c, d⟩ K vK = OptK (extV n (ev e x)) (fun v => K v ⟨h, c, d⟩) .mk := by
 unfold OpK opK; first | rfl | (simp only [AOp.kd, opV, OptK]; first | rfl | (cases ev e x <;> rfl))
theorem OpK_lenOf (st : Bool) (x : AOpd) : OpK X b (.lenOf st x) e ⟨h, c, d⟩ K vK = OptK (lenV st (ev e x)) (fun v => K v ⟨h, c, d⟩) .mk := by
 unfold OpK opK; first | rfl | (simp only [AOp.kd, opV, OptK]; first | rfl | (cases ev e x <;> rfl))
theorem OpK_lenMap (x : AOpd) : OpK X b (.lenMap x) e ⟨h, c, d⟩ K vK = OptK (lenMapV h (ev e x)) (fun v => K v ⟨h, c, d⟩) .mk := by
 unfold OpK opK; first | rfl | (simp only [AOp.kd, opV, OptK]; first | rfl | (cases ev e x <;> rfl))
theorem OpK_mx (m : Bool) (x y : AOpd) : OpK X b (.mx m x y) e ⟨h, c, d⟩ K vK = OptK (mxV m (ev e x) (ev e y)) (fun v => K v ⟨h, c, d⟩) .mk := by
 unfold OpK opK; first | rfl | (simp only [AOp.kd, opV, OptK]; first | rfl | (cases ev e x <;> rfl))
theorem OpK_alloc (k : Nat) (z : List AV) (hz : h (b + k) = some (.cells z)) : OpK X b (.alloc k z) e ⟨h, c, d⟩ K vK = K (.ptr (b + k) 0) ⟨h, c, d⟩ := by
 unfold OpK opK; simp only [AOp.kd, opV, hz, if_true, optK]
theorem OpK_call (f : AOpd) (args : List AOpd) : OpK X b (.call f args) e s K vK = CallK X s K (callV (ev e) f args) .mk := rfl
theorem OpK_box (k : Nat) (x : AOpd) : OpK X b (.box k x) e s K vK = OptK (boxV b k s (ev e x)) (fun r => K r.1 r.2) .mk := by
 unfold OpK opK; first | rfl | (simp only [AOp.kd, opW, OptK]; rfl)
theorem OpK_mkmap (k : Nat) : OpK X b (.mkmap k) e s K vK = OptK (some (.map (b + k), s.set (b + k) (.map [] 0))) (fun r => K r.1 r.2) .mk := by
 unfold OpK opK; first | rfl | (simp only [AOp.kd, opW, OptK]; rfl)
theorem OpK_store (sz : Nat) (x y : AOpd) : OpK X b (.store sz x y) e s K vK = OptK ((stV sz s (ev e y) (ev e x)).map fun s' => (udf, s')) (fun r => K r.1 r.2) .mk := by
 unfold OpK opK; first | rfl | (simp only [AOp.kd, opW, OptK]; rfl)
theorem OpK_mapUpd (t : KeyT) (m k v : AOpd) : OpK X b (.mapUpd t m k v) e s K vK = OptK (keyed t (ev e k) ((updM t s (ev e k) (ev e v) (ev e m)).map fun s' => (udf, s'))) (fun r => K r.1 r.2) .mk := by
 unfold OpK opK; first | rfl | (simp only [AOp.kd, opW, OptK]; rfl)
theorem OpK_mapTouch (t : KeyT) (z : AV) (m k : AOpd) : OpK X b (.mapTouch t z m k) e s K vK = OptK (keyed t (ev e k) (touchM t s (ev e k) z (ev e m))) (fun r => K r.1 r.2) .mk := by
 unfold OpK opK; first | rfl | (simp only [AOp.kd, opW, OptK]; rfl)
theorem OpK_entrySet (m n v : AOpd) : OpK X b (.entrySet m n v) e s K vK = OptK ((stampM s (ev e n) (ev e v) (ev e m)).map fun s' => (udf, s')) (fun r => K r.1 r.2) .mk := by
 unfold OpK opK; first | rfl | (simp only [AOp.kd, opW, OptK]; rfl)
theorem OpK_append (k sz bytes : Nat) (x y : AOpd) : OpK X b (.append k sz bytes x y) e s K vK = OptK (appK b k sz bytes s (ev e x) (ev e y)) (fun r => K r.1 r.2) .mk := by
 unfold OpK opK; first | rfl | (simp only [AOp.kd, opW, OptK]; rfl)
theorem OpK_defer (f : AOpd) (args : List AOpd) : OpK X b (.defer f args) e s K vK = OptK (deferV s (args.map (ev e)) (ev e f)) (fun r => K r.1 r.2) .mk := by
 unfold OpK opK; first | rfl | (simp only [AOp.kd, opW, OptK]; rfl)
end
section
variable {X : Ctx} {b i : Nat} {os : List AOper} {op : AOp} {lg : List Log} {e : AEnv} {s : ASt} {K : AEnv → ASt → List Log → Prop} {vK : Veil K}
theorem OpsK_nil {m : List Nat} {v : Veil ([] : List AOper)} : OpsK X b m [] i lg e s K v vK = K e s lg := rfl
theorem OpsK_some {d : Nat} {v : Veil (AOper.mk (some d) none op :: os)} : OpsK X b [] (AOper.mk (some d) none op :: os) i lg e s K v vK = OpK X b op e s (fun v s' => OpsK X b [] os 0 lg ((d, v) :: e) s' K .mk .mk) .mk := opsK_cons0 ..
theorem OpsK_none {v : Veil (AOper.mk none none op :: os)} : OpsK X b [] (AOper.mk none none op :: os) i lg e s K v vK = OpK X b op e s (fun v s' => OpsK X b [] os 0 lg e s' K .mk .mk) .mk := opsK_cons0 ..
theorem OpsK_guard {dst : Option Nat} {t : Nat} {w : Bool} {v : Veil (AOper.mk dst (some (t, w)) op :: os)} : OpsK X b [] (AOper.mk dst (some (t, w)) op :: os) i lg e s K v vK =
  CondV (.bool (wanted e (some (t, w)))) (OpK X b op e s (fun v s' => OpsK X b [] os 0 lg (e.put dst v) s' K .mk .mk) .mk) (OpsK X b [] os 0 lg (e.put dst udf) s K .mk .mk) .mk .mk := opsK_cons0 ..
/-- In a region with pairs: with logs. -/
theorem OpsK_some1 {m : List Nat} {j d : Nat} {v : Veil (AOper.mk (some d) none op :: os)} : OpsK X b (j :: m) (AOper.mk (some d) none op :: os) i lg e s K v vK =
  OpK X b op e s (fun v s' => OpsK X b (j :: m) os (i + 1) (if (j :: m).contains i then { i, key := opKey (ev e) b op, h := s.heap, h' := s'.heap } :: lg else lg) ((d, v) :: e) s' K .mk .mk) .mk := rfl
theorem OpsK_none1 {m : List Nat} {j : Nat} {v : Veil (AOper.mk none none op :: os)} : OpsK X b (j :: m) (AOper.mk none none op :: os) i lg e s K v vK =
  OpK X b op e s (fun v s' => OpsK X b (j :: m) os (i + 1) (if (j :: m).contains i then { i, key := opKey (ev e) b op, h := s.heap, h' := s'.heap } :: lg else lg) e s' K .mk .mk) .mk := rfl
theorem OpsK_guard1 {m : List Nat} {j : Nat} {dst : Option Nat} {t : Nat} {w : Bool} {v : Veil (AOper.mk dst (some (t, w)) op :: os)} : OpsK X b (j :: m) (AOper.mk dst (some (t, w)) op :: os) i lg e s K v vK =
  CondV (.bool (wanted e (some (t, w)))) (OpK X b op e s (fun v s' => OpsK X b (j :: m) os (i + 1) (if (j :: m).contains i then { i, key := opKey (ev e) b op, h := s.heap, h' := s'.heap } :: lg else lg) (e.put dst v) s' K .mk .mk) .mk)
   (OpsK X b (j :: m) os (i + 1) lg (e.put dst udf) s K .mk .mk) .mk .mk := rfl
end
/-- At a call's beginning. -/
def s0 : ASt := ⟨fun _ => none, 0, []⟩
/-- Objects that there were are as they were, but for some. -/
def Fr (h : Hp) (c : Nat) (h' : Hp) (c' : Nat) (l : List Nat) : Prop := c ≤ c' ∧ ∀ j, j < c → j ∉ l → h' j = h j
theorem Fr.refl (h : Hp) (c : Nat) (l : List Nat) : Fr h c h c l := ⟨Nat.le_refl _, fun _ _ _ => rfl⟩
theorem Fr.trans {h h1 h2 : Hp} {c c1 c2 : Nat} {l l' : List Nat} (a : Fr h c h1 c1 l) (b : Fr h1 c1 h2 c2 l') (hl : ∀ i ∈ l', i ∈ l ∨ c ≤ i) : Fr h c h2 c2 l :=
 ⟨Nat.le_trans a.1 b.1, fun j hj hn => (b.2 j (Nat.lt_of_lt_of_le hj a.1) fun hm => (hl j hm).elim hn fun h => by omega).trans (a.2 j hj hn)⟩
theorem Fr.upd {h h1 : Hp} {c c1 c2 : Nat} {l : List Nat} (a : Fr h c h1 c1 l) {i : Nat} (o : AObj) (hi : i ∈ l ∨ c ≤ i) (hc : c1 ≤ c2) : Fr h c (upd h1 i o) c2 l :=
 ⟨Nat.le_trans a.1 hc, fun j hj hn => by
  have : j ≠ i := fun e => hi.elim (fun h => hn (e ▸ h)) fun h => by omega
  rw [upd_ne _ _ this]; exact a.2 j hj hn⟩
theorem Fr.more {h h1 : Hp} {c c1 c2 : Nat} {l : List Nat} (a : Fr h c h1 c1 l) (hc : c1 ≤ c2) : Fr h c h1 c2 l := ⟨Nat.le_trans a.1 hc, a.2⟩
theorem Fr.wide {h h1 : Hp} {c c1 : Nat} {l l' : List Nat} (a : Fr h c h1 c1 l) (hl : ∀ i ∈ l, i ∈ l') : Fr h c h1 c1 l' := ⟨a.1, fun j hj hn => a.2 j hj fun h => hn (hl j h)⟩
theorem Fr.le {h h1 : Hp} {c c1 : Nat} {l : List Nat} (a : Fr h c h1 c1 l) : c ≤ c1 := a.1
theorem Fr.at {h h1 : Hp} {c c1 : Nat} {l : List Nat} (a : Fr h c h1 c1 l) {j : Nat} (hj : j < c) (hn : j ∉ l) : h1 j = h j := a.2 j hj hn
/-- A row of the call's own: none yet, or of this number. -/
def ownV (i : Option Nat) (es : List AV) : AV := match i with
 | none => .slice .full []
 | some id => .slice (.own id) es
def OwnH (h : Hp) (sz : Nat) (i : Option Nat) (es : List AV) : Prop := match i with
 | none => es = []
 | some id => h id = some (.arr es.length sz)
theorem appK_one {b k sz bytes : Nat} {h : Hp} {c : Nat} {d : List (Nat × List AV)} {i : Option Nat} {es : List AV} {x : AV} {o : Own} (hi : OwnH h sz i es) (hx : sizedV sz [x] = true) (hb : (2 * (es.length + 1) + 1024) * bytes ≤ 281474976710656) :
  appK b k sz bytes ⟨h, c, d⟩ (ownV i es) (.slice o [x]) = some (ownV (some (i.getD (b + k))) (es ++ [x]), ⟨upd h (i.getD (b + k)) (.arr (es.length + 1) sz), c, d⟩) := by
 cases i with
 | none =>
  have : es = [] := hi
  subst this
  simp only [ownV, appK, elemsV, appV, List.length_nil, List.length_cons, Nat.zero_add, Nat.reduceAdd] at *
  rw [if_pos ⟨hb, hx⟩]
  simp [sizedV, set_mk]
 | some id =>
  have : h id = some (.arr es.length sz) := hi
  simp only [ownV, appK, elemsV, appV, List.length_cons, List.length_nil, Nat.zero_add]
  rw [if_pos ⟨hb, hx⟩]
  simp [this, set_mk]
theorem OwnH.one {h : Hp} {sz : Nat} {es : List AV} {x : AV} {j : Nat} : OwnH (upd h j (.arr (es.length + 1) sz)) sz (some j) (es ++ [x]) := by
 simp [OwnH, upd_same]
theorem OwnH.nil {h : Hp} {sz : Nat} : OwnH h sz none [] := rfl
theorem OwnH.keep {h h' : Hp} {sz : Nat} {i : Option Nat} {es : List AV} (a : OwnH h sz i es) (hk : ∀ j, i = some j → h' j = h j) : OwnH h' sz i es := by
 cases i with
 | none => exact a
 | some j => exact (hk j rfl).trans a
theorem len_own (i : Option Nat) (es : List AV) {h : Hp} {sz : Nat} (hi : OwnH h sz i es) : lenV false (ownV i es) = some (.int .i64 es.length) := by
 cases i with
 | none => have : es = [] := hi; subst this; rfl
 | some id => rfl
/-- Bytes as elements. -/
def byteV (b : UInt8) : AV := .int .u8 b.toNat
theorem bytesV_map : ∀ l : List UInt8, bytesV (l.map byteV) = some l
 | [] => rfl
 | b :: l => by simp [bytesV, bytesV_map l, byteV, byteOfV]
theorem str_own {h0 h : Hp} {sz : Nat} (i : Option Nat) (l : List UInt8) (hi : OwnH h sz i (l.map byteV)) : strOfV h0 (ownV i (l.map byteV)) = some (.str l) := by
 cases i with
 | none => have : l.map byteV = [] := hi; simp at this; subst this; rfl
 | some id => simp [ownV, strOfV, bytesV_map]
theorem elems_own (i : Option Nat) (es : List AV) {h : Hp} {sz : Nat} (hi : OwnH h sz i es) : elemsV (ownV i es) = some es := by
 cases i with
 | none => have : es = [] := hi; subst this; rfl
 | some id => rfl
/-! ### Elements -/
theorem len_mslice (id off n cap : Nat) : lenV false (.mslice id off n cap) = some (.int .i64 n) := rfl
theorem idx_mslice (sz : Nat) (k : IntKind) (j id off n cap : Nat) : idxV sz (.int k (j : Int)) (.mslice id off n cap) = if j < n then some (.ptr id (off + j * sz)) else none := by
 simp [idxV, natOf]
def elemA (sz : Nat) : Option AV → Option AV
 | some e => if e.cells.length = sz then some (.eref e.cells) else none
 | none => none
theorem idx_slice (sz : Nat) (k : IntKind) (j : Nat) (o : Own) (es : List AV) : idxV sz (.int k (j : Int)) (.slice o es) = elemA sz es[j]? := by
 simp only [idxV, natOf_nat]; cases es[j]? <;> rfl
theorem ld_eref1 (sz : Nat) (l : List AV) (h : Hp) : ldV false sz h (.eref l) = l.head? := rfl
theorem head_drop (l : List AV) (n : Nat) : (l.drop n).head? = l[n]? := by rw [List.head?_drop]
attribute [go_sem] Aw_skip Aw_ret Aw_exit Aw_seq Aw_cond Aw_block Aw_scope Aw_loop Aw_region0 enter_zero enter_mk preH set_mk OpsK_nil OpsK_some OpsK_none OpsK_guard put_some put_none ThenK_normal ThenK_exit ThenK_ret BlockK_normal BlockK_exit BlockK_ret RetK_ret RetK_normal OptK_some CondV_true CondV_false CallK_some callV OpK_move OpK_pick OpK_build OpK_buildSlice OpK_load OpK_nilCheck OpK_bin OpK_binNil OpK_binEq OpK_un OpK_convInt OpK_convRune OpK_convStr OpK_convBytes OpK_mkfunc OpK_sliceStr OpK_sliceSl OpK_sliceArr OpK_fieldAddr OpK_field OpK_idxAddr OpK_idxAddrArr OpK_idxStr OpK_idxArr OpK_lookup OpK_extract OpK_lenOf OpK_lenMap OpK_mx OpK_alloc OpK_call OpK_box OpK_mkmap OpK_store OpK_mapUpd OpK_mapTouch OpK_entrySet OpK_append OpK_defer ev_tmp ev_val get_cons get_here bin_add bin_sub bin_mul bin_quo bin_rem bin_eql bin_neq bin_lss bin_leq bin_gtr bin_geq bin_cat bin_seq bin_sne un_not un_neg len_str len_slice Option.map_some Option.map_none List.map_nil List.map_cons List.nil_append List.cons_append List.append_nil Nat.add_zero ite_false ite_true ite_cond_eq_true wanted resV oneOf argEnv pickV Bool.not_true Bool.not_false beq_true beq_false nilChk fadV ldV ldObj ldCells stV upd_same Bool.false_eq_true List.head?_cons List.drop_zero List.drop_succ_cons eq_self and_true true_and cut_lo cut_hi cut_both cut_none AV.okc AV.cells AV.isCell List.length_cons List.length_nil List.take_succ_cons List.take_zero List.drop_nil overlay Nat.le_refl Nat.zero_add upd_upd decide_true decide_false udf extV List.getElem?_cons_zero List.getElem?_cons_succ cIntV cStrV ne_eq not_true_eq_false not_false_eq_true len_mslice idx_mslice idx_slice Nat.mul_one head_drop List.getElem?_map Bool.false_bne Bool.true_bne
/-- The deferred calls, the last one first; each defers nothing itself. -/
def DfrK (X : Ctx) : List (Nat × List AV) → ASt → (ASt → Prop) → Prop
 | [], s, K => K s
 | (f, l) :: ds, s, K => ∃ fn, X.code f = some fn ∧ X.orc f = none ∧ l.length ≤ fn.nt ∧ aw X fn.body (fun x e s => match x with | .exit _ => False | _ => s.dfr = [] ∧ (∃ r, resV e s fn.results = some r) ∧ DfrK X ds s K) (argEnv 0 l) s
/-- How a call ends that may have deferred some. -/
def retD (X : Ctx) (rs : List ARes) (old : List (Nat × List AV)) (K : AV → ASt → Prop) : AExit → AEnv → ASt → Prop
 | .exit _, _, _ => False
 | _, e, s => DfrK X s.dfr { s with dfr := [] } fun s => optK (resV e s rs) fun l => K (oneOf l) { s with dfr := old }
theorem dfrK_sound {X : Ctx} : ∀ {ds : List (Nat × List AV)} {s : ASt} {K : ASt → Prop}, DfrK X ds s K → ∃ n s', runDfr (dcall X (acall X n) n) ds s = some s' ∧ K s'
 | [], s, K, h => ⟨0, s, rfl, h⟩
 | (f, l) :: ds, s, K, ⟨fn, hf, ho, hn, hw⟩ => by
  obtain ⟨n, x, e1, s1, h1, h2⟩ := aw_sound hw
  have key : (∀ id, x ≠ .exit id) → s1.dfr = [] ∧ (∃ r, resV e1 s1 fn.results = some r) ∧ DfrK X ds s1 K → ∃ n s', runDfr (dcall X (acall X n) n) ((f, l) :: ds) s = some s' ∧ K s' := by
   rintro hx ⟨a1, ⟨r, a2⟩, a3⟩
   obtain ⟨m, s', b1, b2⟩ := dfrK_sound a3
   refine ⟨max n m, s', ?_, b2⟩
   have hc : dcall X (acall X n) n f l s = some s1 := by
    unfold dcall
    rw [ho, hf]
    simp only [hn, if_true, h1]
    cases x with
    | exit id => exact absurd rfl (hx id)
    | normal => simp only [finish0, a1, a2]
    | ret => simp only [finish0, a1, a2]
   have hc2 := dcall_more (acall_more X (Nat.le_max_left n m)) (Nat.le_max_left n m) f l s s1 hc
   simp only [runDfr, hc2]
   exact runDfr_more (fun f l s r hr => dcall_more (acall_more X (Nat.le_max_right n m)) (Nat.le_max_right n m) f l s r hr) b1
  cases x with
  | exit id => exact h2.elim
  | normal => exact key (by simp) h2
  | ret => exact key (by simp) h2
theorem call_codeD {X : Ctx} {f : Nat} {l : List AV} {s : ASt} {K : AV → ASt → Prop} (fn : AFun) (hf : X.code f = some fn) (ho : X.orc f = none) (hn : l.length ≤ fn.nt) (h : aw X fn.body (retD X fn.results s.dfr K) (argEnv 0 l) { s with dfr := [] }) : Does X f l s K := by
 obtain ⟨n, x, e1, s1, h1, h2⟩ := aw_sound h
 have fin : (∀ id, x ≠ .exit id) → DfrK X s1.dfr { s1 with dfr := [] } (fun s' => optK (resV e1 s' fn.results) fun l => K (oneOf l) { s' with dfr := s.dfr }) → Does X f l s K := by
  intro hx hd
  obtain ⟨m, s2, h3, h4⟩ := dfrK_sound hd
  obtain ⟨r, h5, h6⟩ := optK_some h4
  refine ⟨max n m + 1, oneOf r, { s2 with dfr := s.dfr }, ?_, h6⟩
  have a1 := arun_more (acall_more X (Nat.le_max_left n m)) (Nat.le_max_left n m) h1
  have a2 := runDfr_more (fun f l s r hr => dcall_more (acall_more X (Nat.le_max_right n m)) (Nat.le_max_right n m) f l s r hr) h3
  simp only [acall, ho, hf, hn, if_true, a1]
  cases x with
  | exit id => exact absurd rfl (hx id)
  | normal => simp only [finish, a2, h5]
  | ret => simp only [finish, a2, h5]
 cases x with
 | exit id => exact h2.elim
 | normal => exact fin (by simp) h2
 | ret => exact fin (by simp) h2
/-! ### Veiled -/
def RetD (X : Ctx) (rs : List ARes) (old : List (Nat × List AV)) (K : AV → ASt → Prop) (_ : Veil K) : AExit → AEnv → ASt → Prop := retD X rs old K
def DfrV (X : Ctx) (ds : List (Nat × List AV)) (s : ASt) (K : ASt → Prop) (_ : Veil K) : Prop := DfrK X ds s K
theorem RetD_ret {X : Ctx} {rs : List ARes} {old ds : List (Nat × List AV)} {K : AV → ASt → Prop} {vK : Veil K} {e : AEnv} {h : Hp} {c : Nat} : RetD X rs old K vK .ret e ⟨h, c, ds⟩ = DfrV X ds ⟨h, c, []⟩ (fun s => optK (resV e s rs) fun l => K (oneOf l) { s with dfr := old }) .mk := rfl
theorem RetD_normal {X : Ctx} {rs : List ARes} {old ds : List (Nat × List AV)} {K : AV → ASt → Prop} {vK : Veil K} {e : AEnv} {h : Hp} {c : Nat} : RetD X rs old K vK .normal e ⟨h, c, ds⟩ = DfrV X ds ⟨h, c, []⟩ (fun s => optK (resV e s rs) fun l => K (oneOf l) { s with dfr := old }) .mk := rfl
theorem DfrV_nil {X : Ctx} {rs : List ARes} {old : List (Nat × List AV)} {K : AV → ASt → Prop} {e : AEnv} {h : Hp} {c : Nat} {v : Veil (fun s => optK (resV e s rs) fun l => K (oneOf l) { s with dfr := old })} : DfrV X [] ⟨h, c, []⟩ (fun s => optK (resV e s rs) fun l => K (oneOf l) { s with dfr := old }) v = OptK (resV e ⟨h, c, []⟩ rs) (fun l => K (oneOf l) ⟨h, c, old⟩) .mk := rfl
theorem call_awD {X : Ctx} {f : Nat} {l : List AV} {h : Hp} {c : Nat} {d : List (Nat × List AV)} {K : AV → ASt → Prop} {nt : Nat} {rs : List ARes} (body : ACode) (hf : X.code f = some ⟨nt, rs, body⟩) (ho : X.orc f = none) (hn : Nat.ble l.length nt = true)
  (hw : Aw X body (RetD X rs d K .mk) .mk .mk (argEnv 0 l) ⟨h, c, []⟩) : Does X f l ⟨h, c, d⟩ K := call_codeD _ hf ho (Nat.le_of_ble_eq_true hn) hw
/-- A deferred call whose law is known (as of a call). -/
theorem DfrV_one {X : Ctx} {f : Nat} {l : List AV} {h : Hp} {c : Nat} {K : ASt → Prop} {vK : Veil K} {nt : Nat} (body : ACode) (hf : X.code f = some ⟨nt, [], body⟩) (ho : X.orc f = none) (hn : Nat.ble l.length nt = true)
  (hw : Aw X body (RetK [] [] (fun _ s => K s) .mk) .mk .mk (argEnv 0 l) ⟨h, c, []⟩) : DfrV X [(f, l)] ⟨h, c, []⟩ K vK := by
 refine ⟨_, hf, ho, Nat.le_of_ble_eq_true hn, ?_⟩
 have mono : ∀ (c : ACode) (K K' : AExit → AEnv → ASt → Prop) (e : AEnv) (s : ASt), (∀ x e s, K x e s → K' x e s) → aw X c K e s → aw X c K' e s := by
  intro c
  induction c with
  | skip => intro K K' e s hk h; exact hk _ _ _ h
  | region na pre ops pairs =>
   intro K K' e s hk h
   have om : ∀ (ops : List AOper) (i : Nat) (lg : List Log) (e : AEnv) (s : ASt) (L L' : AEnv → ASt → List Log → Prop) (b : Nat) (m : List Nat), (∀ e s lg, L e s lg → L' e s lg) → opsK X b m ops i lg e s L → opsK X b m ops i lg e s L' := by
    intro ops
    induction ops with
    | nil => intro i lg e s L L' b m hl h; exact hl _ _ _ h
    | cons op os ih =>
     intro i lg e s L L' b m hl h
     simp only [opsK] at h ⊢
     have ok : ∀ (o : AOp) (Q Q' : AV → ASt → Prop), (∀ v s, Q v s → Q' v s) → opK X b o e s Q → opK X b o e s Q' := by
      intro o Q Q' hq h
      have hv : ∀ {α : Type} (r : Option α) (P P' : α → Prop), (∀ a, P a → P' a) → optK r P → optK r P' := by
       intro α r P P' hp h
       cases r with
       | none => exact h.elim
       | some a => exact hp _ h
      cases o <;> simp only [opK, AOp.kd] at h ⊢ <;> first
       | exact hv _ _ _ (fun a => hq _ _) h
       | skip
      rename_i f args
      cases hc : callV (ev e) f args with
      | none => rw [hc] at h; exact h.elim
      | some gl => rw [hc] at h; exact Does.mono h hq
     have gk : ∀ (g : Option (Nat × Bool)) (p q p' q' : Prop), (p → p') → (q → q') → guardK e g p q → guardK e g p' q' := by
      intro g p q p' q' hp hq h
      cases g with
      | none => exact hp h
      | some tw =>
       obtain ⟨t, w⟩ := tw
       simp only [guardK] at h ⊢
       cases hb : wanted e (some (t, w)) with
       | true => rw [hb] at h; exact hp h
       | false => rw [hb] at h; exact hq h
     exact gk _ _ _ _ _ (ok _ _ _ fun v s h => ih _ _ _ _ _ _ _ _ hl h) (fun h => ih _ _ _ _ _ _ _ _ hl h) h
   exact om _ _ _ _ _ _ _ _ _ (fun e s lg h => ⟨h.1, hk _ _ _ h.2⟩) h
  | seq a b iha ihb =>
   intro K K' e s hk h
   exact iha _ _ _ _ (thenK_mono (fun e s h => ihb _ _ _ _ hk h) hk) h
  | cond x a b iha ihb =>
   intro K K' e s hk h
   obtain ⟨t, h1, h2, h3⟩ := condV_elim h
   simp only [aw, h1]
   cases t with
   | true => exact iha _ _ _ _ hk (h2 rfl)
   | false => exact ihb _ _ _ _ hk (h3 rfl)
  | block id b ih =>
   intro K K' e s hk h
   refine ih _ _ _ _ (fun x e s hx => ?_) h
   cases x with
   | normal => exact hk _ _ _ hx
   | exit id' =>
    simp only [blockK] at hx ⊢
    split at hx
    ·rename_i he; rw [if_pos he]; exact hk _ _ _ hx
    ·rename_i he; rw [if_neg he]; exact hk _ _ _ hx
   | ret => exact hk _ _ _ hx
  | loop b ih =>
   intro K K' e s hk h
   obtain ⟨n, x, e', s', h1, h2⟩ := h
   exact ⟨n, x, e', s', h1, hk _ _ _ h2⟩
  | exit id => intro K K' e s hk h; exact hk _ _ _ h
  | scope b ih => intro K K' e s hk h; exact ih _ _ _ _ hk h
  | ret => intro K K' e s hk h; exact hk _ _ _ h
 refine mono _ _ _ _ _ (fun x e s hx => ?_) hw
 cases x with
 | exit id => exact hx.elim
 | normal =>
  obtain ⟨h1, h2⟩ := hx
  obtain ⟨a, b, cc⟩ := s
  simp only at h1
  subst h1
  exact ⟨rfl, ⟨_, rfl⟩, h2⟩
 | ret =>
  obtain ⟨h1, h2⟩ := hx
  obtain ⟨a, b, cc⟩ := s
  simp only at h1
  subst h1
  exact ⟨rfl, ⟨_, rfl⟩, h2⟩
/-! ### Rows -/
def ownG (i : Option Nat) (es : List AV) : AV := match i with
 | none => .slice .full es
 | some id => .slice (.own id) es
def OwnG (h : Hp) (sz : Nat) (i : Option Nat) (es : List AV) : Prop := match i with
 | none => sizedV sz es = true
 | some id => h id = some (.arr es.length sz)
theorem appK_many {b k sz bytes : Nat} {h : Hp} {c : Nat} {d : List (Nat × List AV)} {i : Option Nat} {es new : List AV} {o : Own} (hi : OwnG h sz i es) (hx : sizedV sz new = true) (hn : new.length ≠ 0) (hb : (2 * (es.length + new.length) + 1024) * bytes ≤ 281474976710656) :
  appK b k sz bytes ⟨h, c, d⟩ (ownG i es) (.slice o new) = some (ownG (some (i.getD (b + k))) (es ++ new), ⟨upd h (i.getD (b + k)) (.arr (es.length + new.length) sz), c, d⟩) := by
 cases i with
 | none =>
  have hs : sizedV sz es = true := hi
  simp only [ownG, appK, elemsV, appV]
  rw [if_pos ⟨hb, hx⟩]
  simp [hs, hn, set_mk]
 | some id =>
  have : h id = some (.arr es.length sz) := hi
  simp only [ownG, appK, elemsV, appV]
  rw [if_pos ⟨hb, hx⟩]
  simp [this, set_mk]
theorem OwnG.many {h : Hp} {sz : Nat} {es new : List AV} {j : Nat} : OwnG (upd h j (.arr (es.length + new.length) sz)) sz (some j) (es ++ new) := by
 simp [OwnG, upd_same]
theorem OwnG.keep {h h' : Hp} {sz : Nat} {i : Option Nat} {es : List AV} (a : OwnG h sz i es) (hk : ∀ j, i = some j → h' j = h j) : OwnG h' sz i es := by
 cases i with
 | none => exact a
 | some j => exact (hk j rfl).trans a
theorem len_ownG (i : Option Nat) (es : List AV) : lenV false (ownG i es) = some (.int .i64 es.length) := by cases i <;> rfl
attribute [go_sem] RetD_ret RetD_normal DfrV_nil len_ownG
open Go.RowKit Go.WideShapes Go.ChangeShapes
open Classical in
/-- At the call's beginning: all cells that there are never turn; there is no object yet. -/
noncomputable def G0 (w : World) : Gh := ⟨fun _ => none, fun a => if a.block < w.heap.size then w.cell? a else none, fun _ => none⟩
theorem G0_sim (w : World) : Sim w.heap.size w (G0 w) s0 w := by
 refine ⟨Below.refl _ _, Nat.le_refl _, fun i b h => ?_, fun i j b h => ?_, fun i b h => ?_, fun a v h => ?_, fun b i sz cap h => ?_⟩
 ·cases h
 ·cases h
 ·cases h
 ·simp only [G0] at h
  split at h
  ·exact h
  ·cases h
 ·cases h
theorem G0_old (w : World) : Old w.heap.size w (G0 w) := by
 intro a v h1 h2
 simp only [G0]
 rw [if_pos h1, h2]
/-- A law that answers true, from a world. -/
theorem law_calls {X : Ctx} (hm : X.P.follows .mixedOrders = true) (hX : CodeOK X) {W : World} (hO : OrcOK X W.heap.size W) {f : Nat} {args : List AV} {cargs : Array Value} (ha : VRs (G0 W) args cargs.toList)
  (h : Does X f args s0 fun v _ => v = .bool true) : Calls X.P f cargs W fun e W' => e = .returned (.bool true) ∧ Below W.heap.size W W' := by
 obtain ⟨n, v, s', h1, rfl⟩ := h
 obtain ⟨_, _, _, h2⟩ := acall_ok hm hX hO n f args s0 _ s' h1
 refine (h2 (G0 W) W cargs (G0_sim W) (G0_old W) ha).mono ?_
 rintro e W' ⟨cv, G', rfl, hv, _, hs, _⟩
 cases hv
 exact ⟨rfl, hs.below⟩
section
variable {H : Type} {enc : TypeId × Value → H} {P : Program}
/-- The row's last step where the world is only known to be as it was below. -/
theorem post_of_below {f : Func} {s : ChangeSpec} {apart fresh handsOn again : Bool} {W W' : World} {args : Array Value} {v : Value} {ds gs : List (DataW H)} {before pa pv : List MemPlace}
  (hW : DataW.Whole enc P f.params.toList s.vars apart W args.toList ds gs before)
  (hres : ∀ (b : Nat) (sp : Nat → Bool) (hd : Bool), DataW.TrodAll enc P W' b sp hd f.resultTypes.toList (v.resultList f.resultTypes.size) (s.fn H (ds ++ gs)).results [])
  (hargs : ∀ sp : Nat → Bool, (∀ p ∈ before, sp p.block = true) → DataW.TrodAll enc P W' 0 sp true f.params.toList args.toList (s.fn H (ds ++ gs)).args pa)
  (hvars : ∀ sp : Nat → Bool, (∀ p ∈ before, sp p.block = true) → DataW.TrodVars enc P W' sp s.vars (s.fn H (ds ++ gs)).vars pv)
  (hps : before = pa ++ pv) (hb : Below W.heap.size W W')
  (hok : ∀ (j : Nat) (t : TypeId) (r : Value), f.resultTypes[j]? = some t → (v.resultList f.resultTypes.size)[j]? = some r → Value.okWide P W' .any 0 t r) :
  s.post enc P f apart fresh handsOn again W args v W' := by
 have hlt : ∀ p ∈ before, p.block < W.heap.size := fun p hp => hW.lt p hp
 have hold : ∀ p ∈ before, (fun b => decide (b < W.heap.size)) p.block = true := fun p hp => by simpa using hlt p hp
 refine ⟨ds, gs, before, [], pa, pv, hW, hres _ _ _, hargs _ hold, hvars _ hold, World.keptBut_mono (fun p hp => ⟨hp, ?_⟩) (hb.frame (· ∈ before)), fun _ => ?_⟩
 ·rw [hps, List.mem_append] at hp
  exact Or.inr hp
 ·obtain ⟨_, _, _, _, _, hz, hn⟩ := hW
  refine ⟨hok, _, _, ([] ++ pa) ++ pv, ⟨[] ++ pa, pv, trodAll_append (hargs _ (fun _ _ => rfl)) (hres _ _ _), hvars _ (fun _ _ => rfl), rfl, ?_, ?_⟩, ?_⟩
  ·intro b off hp
   have hin : MemPlace.cell b off ∈ before := by rw [hps]; simpa using hp
   rw [hb.frozen (hlt _ hin)]
   exact hz b off hin
  ·intro ha
   have := hn ha
   rw [hps] at this
   simpa using this
  ·intro p hp _
   rw [hps]
   simpa using hp
/-- The plain wrap of a row that lists variables, with the world's shape. -/
theorem returns_of_law {C : Checked} {os : Os} {f : FuncId} {fn : Func} {s : ChangeSpec} {conds : List PathCond} {X : World → Array Value → Prop} {a : Assume} {apart fresh handsOn again : Bool}
  (hX : ∀ (w w' : World) (args : Array Value), w.heap = w'.heap → X w args → X w' args)
  (own : ownKnob C.prog.godebug = none) (started : os.Started) (noInit : C.prog.inits.idxOf? f = none) (hfn : C.prog.funcs[f]? = some fn)
  (witness : ∃ (w : World) (tape : Tape) (i : Input), w.os = os ∧ (w.forCall tape i).Shaped C.prog ∧ i.vars = [] ∧ Input.okWide C.prog (w.forCall tape i) .any w.heap.size f i ∧
   ((s.pre enc C.prog fn conds apart (w.forCall tape i).memory i.args ∧ X (w.forCall tape i).memory i.args) ∧ sizedMet enc C.prog fn (OpenSpec.ofChange s) apart (w.forCall tape i).memory i.args) ∧ a.holds C.prog (lone (Frame.enter C.prog f i.args .normal) [] (w.forCall tape i)))
  (contract : ∀ (W : World) (base : Nat) (args : Array Value) (ds gs : List (DataW H)) (before : List MemPlace),
   (∀ (j : Nat) t v, fn.params[j]? = some t → args[j]? = some v → Value.okWide C.prog W .any base t v) →
   DataW.Whole enc C.prog fn.params.toList s.vars apart W args.toList ds gs before →
   (DataW.weightsEach C.prog (fn.params.toList ++ s.plain.varTypes C.prog) (ds ++ gs)).all (· ≤ reachBytes) = true → X W args → W.ShapedOpen C.prog →
   Calls C.prog f args W fun e W' => ∃ v, e = .returned v ∧ s.post enc C.prog fn apart fresh handsOn again W args v W') :
  ReturnsInHanded a C os f .any (fun w args => (s.pre enc C.prog fn conds apart w args ∧ X w args) ∧ sizedMet enc C.prog fn (OpenSpec.ofChange s) apart w args) (s.post enc C.prog fn apart fresh handsOn again) := by
 refine returnsInHanded_of_calls own started noInit witness ?_
 intro w tape i _ hsh _ hok hpre hholds
 obtain ⟨_, _, _, fn', hfn', _, _, _, _, hval⟩ := hok
 have e : fn' = fn := Option.some.inj (hfn'.symm.trans hfn)
 subst e
 obtain ⟨⟨⟨ds, gs, before, hw, hc⟩, hx⟩, hz⟩ := hpre
 have hw' := DataW.Whole.of_heap (w' := w.forCall tape i) (by rfl) hw
 refine (contract (w.forCall tape i) w.heap.size i.args ds gs before hval hw' (hz.weights hw) (hX _ _ _ (by rfl) hx) hsh).mono fun e W' ⟨v, he, hp⟩ => ?_
 subst he
 exact ChangeSpec.post_blind hp
end
end Go.Proofs.YtdohdncgjendkaaDoor.Abs
