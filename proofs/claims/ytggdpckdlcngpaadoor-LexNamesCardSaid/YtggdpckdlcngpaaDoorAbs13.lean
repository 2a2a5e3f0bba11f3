/- Regions in any order. -/
import Derived.Test.YtggdpckdlcngpaaDoorAbs12
set_option linter.unusedVariables false
set_option linter.unusedSimpArgs false
namespace Go.Proofs.YtggdpckdlcngpaaDoor.Abs
open Go.RowKit

/-! ### What must be ahead -/

theorem ancsFrom_pre : ∀ (l : List Oper) (acc : List (List Nat)) (k : Nat), k < acc.length → (ancsFrom l acc).getD k [] = acc.getD k []
  | [], acc, k, _ => rfl
  | o :: l, acc, k, h => by
    simp only [ancsFrom]
    rw [ancsFrom_pre l _ k (by simp; omega)]
    simp only [List.getD_eq_getElem?_getD]
    rw [List.getElem?_append_left h]

theorem ancsFrom_at : ∀ (l : List Oper) (acc : List (List Nat)) (j : Nat) (o : Oper) (i : Nat), l[j]? = some o → i ∈ (ancsFrom l acc).getD (acc.length + j) [] →
    i ∈ edgesOf o ∨ ∃ k ∈ edgesOf o, i ∈ (ancsFrom l acc).getD k []
  | [], acc, j, o, i, h, _ => by simp at h
  | x :: l, acc, 0, o, i, h, hi => by
    simp only [List.getElem?_cons_zero, Option.some.injEq] at h
    subst h
    simp only [ancsFrom, Nat.add_zero] at hi ⊢
    rw [ancsFrom_pre l _ acc.length (by simp)] at hi
    simp only [List.getD_eq_getElem?_getD] at hi
    rw [List.getElem?_append_right (Nat.le_refl _)] at hi
    simp only [Nat.sub_self, List.getElem?_cons_zero, Option.getD_some, List.mem_eraseDups, List.mem_append, List.mem_flatMap] at hi
    rcases hi with hi | ⟨k, hk, hi⟩
    · exact .inl hi
    · refine .inr ⟨k, hk, ?_⟩
      have hlt : k < acc.length := by
        rcases Nat.lt_or_ge k acc.length with h' | h'
        · exact h'
        · rw [List.getElem?_eq_none h'] at hi; simp at hi
      rw [ancsFrom_pre l _ k (by simp; omega)]
      simp only [List.getD_eq_getElem?_getD]
      rw [List.getElem?_append_left hlt]
      exact hi
  | x :: l, acc, j + 1, o, i, h, hi => by
    simp only [ancsFrom] at hi ⊢
    refine ancsFrom_at l _ j o i (by simpa using h) ?_
    rw [List.length_append]
    simpa [Nat.add_assoc, Nat.add_comm 1 j] using hi

theorem anc_spec {ops : List Oper} {j : Nat} {o : Oper} {i : Nat} (h : ops[j]? = some o) (hi : anc (ancsFrom ops []) j i = true) :
    i ∈ edgesOf o ∨ ∃ k ∈ edgesOf o, anc (ancsFrom ops []) k i = true := by
  unfold anc at *
  simp only [List.contains_iff_mem] at hi ⊢
  exact ancsFrom_at ops [] j o i h (by simpa using hi)

structure DrawOK (ops : Array Oper) (l : List AOper) (A : List (List Nat)) : Prop where
  edge : ∀ (j : Nat) (o : Oper), ops[j]? = some o → ∀ i ∈ edgesOf o, i < j
  anc : ∀ (j : Nat) (o : Oper), ops[j]? = some o → ∀ i, anc A j i = true → i ∈ edgesOf o ∨ ∃ k ∈ edgesOf o, anc A k i = true
  pair : ∀ (i j : Nat) (a b : AOper), i < j → l[i]? = some a → l[j]? = some b → pairOK A i j a b = true

theorem drawOK_spec {ops : Array Oper} {l : List AOper} (hl : l.length = ops.size) (h : drawOK (ancsFrom ops.toList []) ops.toList l = true) : DrawOK ops l (ancsFrom ops.toList []) := by
  simp only [drawOK, List.all_eq_true, List.mem_range, Bool.and_eq_true] at h
  refine ⟨fun j o hj i hi => ?_, fun j o hj i hi => anc_spec (by simpa using hj) hi, fun i j a b hij ha hb => ?_⟩
  · have hlt := lt_of_get hj
    have := (h j (by omega)).1
    rw [show ops.toList[j]? = some o from by simpa using hj] at this
    simp only [List.all_eq_true, decide_eq_true_eq] at this
    exact this i hi
  · have hlt : j < l.length := by
      rcases Nat.lt_or_ge j l.length with h' | h'
      · exact h'
      · rw [List.getElem?_eq_none h'] at hb; cases hb
    have := (h j hlt).2 i hij
    rw [ha, hb] at this
    exact this

theorem DrawOK.anc_lt {ops : Array Oper} {l : List AOper} {A : List (List Nat)} (h : DrawOK ops l A) : ∀ (j i : Nat), j < ops.size → Abs.anc A j i = true → i < j := by
  intro j
  induction j using Nat.strongRecOn with
  | _ j ih =>
    intro i hj hi
    have ho : ops[j]? = some ops[j] := Array.getElem?_eq_getElem hj
    rcases h.anc j _ ho i hi with h1 | ⟨k, h1, h2⟩
    · exact h.edge j _ ho i h1
    · have := h.edge j _ ho k h1
      have := ih k this i (by omega) h2
      omega

/-! ### The slots -/

def Wr (l : List AOper) (i t : Nat) : Prop := ∃ o, l[i]? = some o ∧ o.dst = some t

theorem Wr.uniq {ops : Array Oper} {l : List AOper} {A : List (List Nat)} (h : DrawOK ops l A) {i j t : Nat} (hi : Wr l i t) (hj : Wr l j t) : i = j := by
  have key : ∀ i j, Wr l i t → Wr l j t → i < j → False := by
    rintro i j ⟨o, h1, h2⟩ ⟨p, h3, h4⟩ hij
    have := h.pair i j o p hij h1 h3
    unfold pairOK at this
    rw [h2, h4] at this
    simp at this
  rcases Nat.lt_trichotomy i j with h' | h' | h'
  · exact (key i j hi hj h').elim
  · exact h'
  · exact (key j i hj hi h').elim

theorem put_get (e : AEnv) (dst : Option Nat) (v : AV) (t : Nat) : (e.put dst v).get t = if dst = some t then v else e.get t := by
  cases dst with
  | none => simp [AEnv.put]
  | some d => simp [get_put]

section
variable {call : Caller} {b : Nat} {ops : Array Oper} {l : List AOper} {A : List (List Nat)} {E : Nat → AEnv} {S : Nat → ASt} {V : Nat → AV} {logs : List Log}

theorem Trace.keepE (ht : Trace call b l 0 E S V logs) {p : Nat} {t : Nat} : ∀ {q : Nat}, p ≤ q → q ≤ l.length → (∀ i, p ≤ i → i < q → ¬ Wr l i t) → (E q).get t = (E p).get t := by
  intro q
  induction q with
  | zero => intro h _ _; rw [show p = 0 from by omega]
  | succ q ih =>
    intro h hq hw
    rcases Nat.lt_or_ge p (q + 1) with h' | h'
    · have hlt : q < l.length := hq
      obtain ⟨_, h2, _⟩ := ht q _ (List.getElem?_eq_getElem hlt)
      rw [h2, put_get, if_neg (fun he => hw q (by omega) (by omega) ⟨_, List.getElem?_eq_getElem hlt, he⟩)]
      exact ih (by omega) (by omega) fun i h1 h2 => hw i h1 (by omega)
    · rw [show p = q + 1 from by omega]

theorem Trace.valE (hd : DrawOK ops l A) (ht : Trace call b l 0 E S V logs) {i q t : Nat} (hi : Wr l i t) (hiq : i < q) (hq : q ≤ l.length) : (E q).get t = V i := by
  obtain ⟨o, h1, h2⟩ := hi
  rw [ht.keepE (p := i + 1) (by omega) hq fun j h3 h4 hj => by have := Wr.uniq hd ⟨o, h1, h2⟩ hj; omega]
  rw [(ht i o h1).2.1, put_get, if_pos h2]

/-- The slots, when these operations are done. -/
noncomputable def dEnv (l : List AOper) (D : Nat → Prop) (e0 ef : AEnv) : AEnv :=
  open Classical in
  ((List.range l.length).filterMap fun j => if D j then (l[j]?).bind fun o => o.dst.map fun d => (d, ef.get d) else none) ++ e0

theorem get_append (ef e0 : AEnv) (t : Nat) : ∀ (m : AEnv), (∀ p ∈ m, p.2 = ef.get p.1) → ((∃ p ∈ m, p.1 = t) → AEnv.get (m ++ e0) t = ef.get t) ∧ ((∀ p ∈ m, p.1 ≠ t) → AEnv.get (m ++ e0) t = e0.get t)
  | [], _ => ⟨fun ⟨p, h, _⟩ => by simp at h, fun _ => rfl⟩
  | (d, v) :: m, h => by
    obtain ⟨h1, h2⟩ := get_append ef e0 t m fun p hp => h p (List.mem_cons_of_mem _ hp)
    have hv : v = ef.get d := h (d, v) List.mem_cons_self
    constructor
    · intro hx
      simp only [List.cons_append, AEnv.get]
      by_cases e1 : d = t
      · rw [if_pos e1, hv, e1]
      · rw [if_neg e1]
        refine h1 ?_
        obtain ⟨p, hp, hpt⟩ := hx
        rcases List.mem_cons.1 hp with rfl | hp
        · exact absurd hpt e1
        · exact ⟨p, hp, hpt⟩
    · intro hx
      simp only [List.cons_append, AEnv.get]
      rw [if_neg (hx (d, v) List.mem_cons_self)]
      exact h2 fun p hp => hx p (List.mem_cons_of_mem _ hp)

theorem dEnv_mem {D : Nat → Prop} {ef : AEnv} {p : Nat × AV} : (p ∈ ((List.range l.length).filterMap fun j => open Classical in if D j then (l[j]?).bind fun o => o.dst.map fun d => (d, ef.get d) else none)) ↔ ∃ j, D j ∧ Wr l j p.1 ∧ p.2 = ef.get p.1 := by
  simp only [List.mem_filterMap, List.mem_range]
  constructor
  · rintro ⟨j, hj, h⟩
    split at h
    · rename_i hD
      simp only [Option.bind_eq_some_iff, Option.map_eq_some_iff] at h
      obtain ⟨o, h1, d, h2, rfl⟩ := h
      exact ⟨j, hD, ⟨o, h1, h2⟩, rfl⟩
    · cases h
  · rintro ⟨j, hD, ⟨o, h1, h2⟩, h3⟩
    refine ⟨j, ?_, ?_⟩
    · rcases Nat.lt_or_ge j l.length with h' | h'
      · exact h'
      · rw [List.getElem?_eq_none h'] at h1; cases h1
    · rw [if_pos hD, h1]
      simp only [Option.bind_some, h2, Option.map_some]
      rw [← h3]

theorem dEnv_in {D : Nat → Prop} {e0 ef : AEnv} {i t : Nat} (hD : D i) (hw : Wr l i t) : (dEnv l D e0 ef).get t = ef.get t :=
  (get_append ef e0 t _ fun p hp => (dEnv_mem.1 hp).elim fun _ h => h.2.2).1 ⟨(t, ef.get t), dEnv_mem.2 ⟨i, hD, hw, rfl⟩, rfl⟩

theorem dEnv_out {D : Nat → Prop} {e0 ef : AEnv} {t : Nat} (h : ∀ i, D i → ¬ Wr l i t) : (dEnv l D e0 ef).get t = e0.get t :=
  (get_append ef e0 t _ fun p hp => (dEnv_mem.1 hp).elim fun _ h => h.2.2).2 fun p hp he => by
    obtain ⟨j, h1, h2, _⟩ := dEnv_mem.1 hp
    exact h j h1 (he ▸ h2)

/-- An operation sees in these slots what it sees in the order of the text. -/
theorem dEnv_agree (hd : DrawOK ops l A) (ht : Trace call b l 0 E S V logs) {D : Nat → Prop} (hcl : ∀ i j, j < ops.size → D j → anc A j i = true → D i) (hDn : ∀ j, D j → j < ops.size) {j : Nat} {o : AOper} (hj : l[j]? = some o) (hn : ¬ D j)
    (hanc : ∀ i, anc A j i = true → D i) : Agree (E j) (dEnv l D (E 0) (E l.length)) o.reads := by
  have hlt : j < l.length := by
    rcases Nat.lt_or_ge j l.length with h' | h'
    · exact h'
    · rw [List.getElem?_eq_none h'] at hj; cases hj
  intro t hr
  by_cases hw : ∃ i, Wr l i t
  · obtain ⟨i, hi⟩ := hw
    obtain ⟨p, hp, hpd⟩ := id hi
    have hil : i < l.length := by
      rcases Nat.lt_or_ge i l.length with h' | h'
      · exact h'
      · rw [List.getElem?_eq_none h'] at hp; cases hp
    rcases Nat.lt_trichotomy i j with h | h | h
    · have hpk := hd.pair i j p o h hp hj
      have hD : D i := by
        refine hanc i ?_
        unfold pairOK at hpk
        rw [hpd] at hpk
        simp only [Bool.and_eq_true, Bool.or_eq_true] at hpk
        rcases hpk.1.1.1 with h1 | h1
        · simp [hr] at h1
        · exact h1
      rw [dEnv_in hD hi, ht.valE hd hi h (by omega), ht.valE hd hi hil (Nat.le_refl _)]
    · rw [dEnv_out fun k hk hwk => by have := Wr.uniq hd hi hwk; subst this; subst h; exact hn hk]
      exact ht.keepE (Nat.zero_le _) (by omega) fun k h1 h2 hk => by have := Wr.uniq hd hi hk; omega
    · have hpk := hd.pair j i o p h hj hp
      have ha : anc A i j = true := by
        unfold pairOK at hpk
        rw [hpd] at hpk
        simp only [Bool.and_eq_true, Bool.or_eq_true] at hpk
        rcases hpk.1.2 with h1 | h1
        · simp [hr] at h1
        · exact h1
      rw [dEnv_out fun k hk hwk => by have := Wr.uniq hd hi hwk; subst this; exact hn (hcl j i (hDn i hk) hk ha)]
      exact ht.keepE (Nat.zero_le _) (by omega) fun k h1 h2 hk => by have := Wr.uniq hd hi hk; omega
  · rw [dEnv_out fun k _ hk => hw ⟨k, hk⟩]
    exact ht.keepE (Nat.zero_le _) (by omega) fun k h1 h2 hk => hw ⟨k, hk⟩

theorem dEnv_put (hd : DrawOK ops l A) (ht : Trace call b l 0 E S V logs) {D D' : Nat → Prop} {j : Nat} {o : AOper} (hj : l[j]? = some o) (hD' : ∀ i, D' i ↔ D i ∨ i = j) (t : Nat) :
    (dEnv l D' (E 0) (E l.length)).get t = ((dEnv l D (E 0) (E l.length)).put o.dst (V j)).get t := by
  have hlt : j < l.length := by
    rcases Nat.lt_or_ge j l.length with h' | h'
    · exact h'
    · rw [List.getElem?_eq_none h'] at hj; cases hj
  rw [put_get]
  split
  · rename_i he
    have hw : Wr l j t := ⟨o, hj, he⟩
    rw [dEnv_in ((hD' j).2 (.inr rfl)) hw, ht.valE hd hw hlt (Nat.le_refl _)]
  · rename_i he
    by_cases hw : ∃ i, D i ∧ Wr l i t
    · obtain ⟨i, h1, h2⟩ := hw
      rw [dEnv_in h1 h2, dEnv_in ((hD' i).2 (.inl h1)) h2]
    · rw [dEnv_out fun i h1 h2 => hw ⟨i, h1, h2⟩, dEnv_out fun i h1 h2 => ?_]
      rcases (hD' i).1 h1 with h1 | rfl
      · exact hw ⟨i, h1, h2⟩
      · obtain ⟨p, hp, hpd⟩ := h2
        rw [hj] at hp; injection hp with hp; subst hp
        exact he hpd

theorem dEnv_all (ht : Trace call b l 0 E S V logs) {D : Nat → Prop} (hD : ∀ j, j < l.length → D j) (t : Nat) : (dEnv l D (E 0) (E l.length)).get t = (E l.length).get t := by
  by_cases hw : ∃ i, Wr l i t
  · obtain ⟨i, hi⟩ := hw
    refine dEnv_in (hD i ?_) hi
    obtain ⟨p, hp, _⟩ := hi
    rcases Nat.lt_or_ge i l.length with h' | h'
    · exact h'
    · rw [List.getElem?_eq_none h'] at hp; cases hp
  · rw [dEnv_out fun i _ h => hw ⟨i, h⟩]
    exact (ht.keepE (Nat.zero_le _) (Nat.le_refl _) fun k _ _ hk => hw ⟨k, hk⟩).symm

/-! ### The states -/

/-- Where nothing is turned, the state stays; where an object is not turned, it stays. -/
theorem Trace.keepS (ht : Trace call b l 0 E S V logs) {p : Nat} : ∀ {q : Nat}, p ≤ q → q ≤ l.length → (∀ i o, p ≤ i → i < q → l[i]? = some o → o.op.turns = false) → S q = S p := by
  intro q
  induction q with
  | zero => intro h _ _; rw [show p = 0 from by omega]
  | succ q ih =>
    intro h hq hw
    rcases Nat.lt_or_ge p (q + 1) with h' | h'
    · have hlt : q < l.length := hq
      have hg := List.getElem?_eq_getElem hlt
      obtain ⟨h1, _, _⟩ := ht q _ hg
      have hh : S (q + 1) = S q := stepV_turnless (hw q _ (by omega) (by omega) hg) h1
      rw [hh]
      exact ih (by omega) (by omega) fun i o h1 h2 => hw i o h1 (by omega)
    · rw [show p = q + 1 from by omega]

theorem Trace.keepH (ht : Trace call b l 0 E S V logs) {k p : Nat} : ∀ {q : Nat}, p ≤ q → q ≤ l.length → (∀ i o, p ≤ i → i < q → l[i]? = some o → o.op.turns = true → (S i).heap k = (S (i + 1)).heap k) → (S q).heap k = (S p).heap k := by
  intro q
  induction q with
  | zero => intro h _ _; rw [show p = 0 from by omega]
  | succ q ih =>
    intro h hq hw
    rcases Nat.lt_or_ge p (q + 1) with h' | h'
    · have hlt : q < l.length := hq
      have hg := List.getElem?_eq_getElem hlt
      obtain ⟨h1, _, _⟩ := ht q _ hg
      have : (S (q + 1)).heap k = (S q).heap k := by
        cases ht2 : (l[q]).op.turns with
        | false =>
          have := stepV_turnless ht2 h1
          simp only at this
          rw [this]
        | true => exact (hw q _ (by omega) (by omega) hg ht2).symm
      rw [this]
      exact ih (by omega) (by omega) fun i o h1 h2 => hw i o h1 (by omega)
    · rw [show p = q + 1 from by omega]

end
end Go.Proofs.YtggdpckdlcngpaaDoor.Abs
