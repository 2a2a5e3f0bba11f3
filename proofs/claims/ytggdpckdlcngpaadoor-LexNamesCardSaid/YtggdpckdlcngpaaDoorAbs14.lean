/- Regions in any order: the run. -/
import Derived.Test.YtggdpckdlcngpaaDoorAbs13
set_option linter.unusedVariables false
set_option linter.unusedSimpArgs false
namespace Go.Proofs.YtggdpckdlcngpaaDoor.Abs
open Go.RowKit

theorem countP_lt {α : Type} {p q : α → Bool} (hpq : ∀ x, q x = true → p x = true) : ∀ {l : List α} {i : α}, i ∈ l → p i = true → q i = false → l.countP q < l.countP p
  | x :: l, i, hi, hp, hq => by
    have hle : l.countP q ≤ l.countP p := List.countP_mono_left fun y _ => hpq y
    rcases List.mem_cons.1 hi with rfl | hi
    · rw [List.countP_cons_of_pos hp, List.countP_cons_of_neg (by simp [hq])]
      omega
    · have := countP_lt hpq hi hp hq
      cases hx : q x with
      | true => rw [List.countP_cons_of_pos hx, List.countP_cons_of_pos (hpq x hx)]; omega
      | false =>
        rw [List.countP_cons_of_neg (by simp [hx])]
        rw [List.countP_cons]
        omega

/-- So many are not listed. -/
def unl (n : Nat) (listed : Array Bool) : Nat := (List.range n).countP fun j => !listed.getD j true

section
variable {P : Program} {nt B : Nat} {w0 : World} {call : Caller} {b : Nat} {ops : Array Oper} {l : List AOper} {A : List (List Nat)} {E : Nat → AEnv} {S : Nat → ASt} {V : Nat → AV} {logs : List Log}

/-- What holds when the operations of D are done. -/
structure DInv (P : Program) (nt B : Nat) (w0 : World) (b : Nat) (ops : Array Oper) (l : List AOper) (A : List (List Nat)) (E : Nat → AEnv) (S : Nat → ASt) (G0 : Gh) (D : Nat → Prop) (p : Nat) (G : Gh) (a : Act) (w : World) : Prop where
  le : p ≤ l.length
  turn : ∀ j o, l[j]? = some o → o.op.turns = true → (D j ↔ j < p)
  rel : Rel nt B w0 G (dEnv l D (E 0) (E l.length)) (S p) a w
  own : Owns b l G (S p) D
  closed : ∀ i j, j < ops.size → D j → anc A j i = true → D i
  gle : G0.Le G
  keep : G0.Keep b none G

theorem Rel.congr {G : Gh} {e e' : AEnv} {s : ASt} {a : Act} {w : World} (h : Rel nt B w0 G e s a w) (he : ∀ t, e'.get t = e.get t) : Rel nt B w0 G e' s a w :=
  ⟨h.sim, fun t => by rw [he]; exact h.opd t, h.dfr, h.size, h.old⟩

theorem mem_edges {o : Oper} {x : Edge} (hx : x ∈ o.after) (hb : Region.binds .any x = true) : x.on ∈ edgesOf o := by
  unfold edgesOf
  exact List.mem_map.2 ⟨x, List.mem_filter.2 ⟨by simpa using hx, hb⟩, rfl⟩

theorem open_mem {i j : Nat} {x y : AOper} (hx : l[i]? = some x) (hy : l[j]? = some y) (h1 : x.op.looks = true) (h2 : y.op.turns = true) (h3 : anc A i j = false) (h4 : anc A j i = false) : (i, j) ∈ openPairs A l := by
  have hi : i < l.length := by
    rcases Nat.lt_or_ge i l.length with h' | h'
    · exact h'
    · rw [List.getElem?_eq_none h'] at hx; cases hx
  have hj : j < l.length := by
    rcases Nat.lt_or_ge j l.length with h' | h'
    · exact h'
    · rw [List.getElem?_eq_none h'] at hy; cases hy
  unfold openPairs
  rw [List.mem_flatMap]
  refine ⟨i, List.mem_range.2 hi, ?_⟩
  rw [List.mem_filterMap]
  refine ⟨j, List.mem_range.2 hj, ?_⟩
  simp only [hx, hy, h1, h2, h3, h4]
  rfl

/-- One more operation. -/
theorem draw_step (hcall : CallOK P B w0 call) (hR : RegOK P nt ops l) (hd : DrawOK ops l A) (ht : Trace call b l 0 E S V logs) (hst : Stable (openPairs A l) logs) (hb : b ≤ (S 0).ctr) {Q : Exit → Act → World → Prop} {G0 G : Gh} {D D' : Nat → Prop} {p : Nat} {a : Act} {w : World}
    (h : DInv P nt B w0 b ops l A E S G0 D p G a w) (hDn : ∀ j, D j → j < ops.size) {j : Nat} (hj : j < ops.size) (hnj : ¬ D j) (hanc : ∀ i, anc A j i = true → D i) (hD' : ∀ i, D' i ↔ D i ∨ i = j) {K : Act → World → Prop}
    (hK : ∀ p' G' a' w', DInv P nt B w0 b ops l A E S G0 D' p' G' a' w' → K a' w') : wpOp P ops Q j K a w := by
  obtain ⟨o, ao, k, h1, h2, h3⟩ := hR.get hj
  have hjl : j < l.length := by rw [hR.len]; exact hj
  obtain ⟨t1, t2, t3⟩ := ht j ao h2
  have hag := dEnv_agree hd ht h.closed hDn h2 hnj hanc
  have hclosed : ∀ i k, k < ops.size → D' k → anc A k i = true → D' i := by
    intro i k hk h5 h6
    rcases (hD' k).1 h5 with h5 | rfl
    · exact (hD' i).2 (.inl (h.closed i k hk h5 h6))
    · exact (hD' i).2 (.inl (hanc i h6))
  have hbp : b ≤ (S p).ctr := Nat.le_trans hb (ht.le hcall (Nat.zero_le p) h.le)
  have hDD : ∀ i, ¬ D' i → ¬ D i ∧ i ≠ j := fun i hi => ⟨fun hx => hi ((hD' i).2 (.inl hx)), fun hx => hi ((hD' i).2 (.inr hx))⟩
  cases htu : ao.op.turns with
  | true =>
    have hpj : p ≤ j := by
      rcases Nat.lt_or_ge j p with h' | h'
      · exact absurd ((h.turn j ao h2 htu).2 h') hnj
      · exact h'
    have hno : ∀ i y, p ≤ i → i < j → l[i]? = some y → y.op.turns = false := by
      intro i y hi hij hy
      cases hyt : y.op.turns with
      | false => rfl
      | true =>
        have hp := hd.pair i j y ao hij hy h2
        unfold pairOK at hp
        simp only [hyt, htu, Bool.and_self, Bool.not_true, Bool.false_or, Bool.and_eq_true] at hp
        have := (h.turn i y hy hyt).1 (hanc i hp.2)
        omega
    have hS : S j = S p := ht.keepS hpj (by omega) hno
    refine step_sound hcall h1 h3 h.rel (fun n hn => h.own j ao n h2 hnj hn) (e1 := (dEnv l D (E 0) (E l.length)).put ao.dst (V j)) (s1 := S (j + 1)) ?_ ?_
    · rw [stepOp_eq, ← hS, ← stepV_congr hag, t1]; rfl
    · intro a' w' G' hle hkp hrel
      refine hK (j + 1) G' a' w' ⟨by omega, ?_, hrel.congr (dEnv_put hd ht h2 hD'), ?_, hclosed, h.gle.trans hle, h.keep.trans (keep_below (l := l) (i := j) (s := S p) hkp hbp)⟩
      · intro i y hy hyt
        constructor
        · intro hi
          rcases (hD' i).1 hi with hi | rfl
          · have := (h.turn i y hy hyt).1 hi; omega
          · omega
        · intro hi
          rcases Nat.lt_or_ge i j with h' | h'
          · rcases Nat.lt_or_ge i p with h'' | h''
            · exact (hD' i).2 (.inl ((h.turn i y hy hyt).2 h''))
            · rw [hno i y h'' h' hy] at hyt; cases hyt
          · exact (hD' i).2 (.inr (by omega))
      · refine Owns.step hR.nums h.own h2 hkp ?_ hDD
        rw [← hS]
        exact stepV_ctr hcall t1
  | false =>
    have hkey : ∀ k, stepKey b ao (E j) = some k → (S j).heap k = (S p).heap k := by
      intro k hk
      have hlk : ao.op.looks = true := by
        unfold stepKey at hk
        split at hk
        · exact (opKey_looks hk).1
        · cases hk
      have one : ∀ i y, l[i]? = some y → y.op.turns = true → anc A i j = false → anc A j i = false → (S i).heap k = (S (i + 1)).heap k := by
        intro i y hy hyt h5 h6
        have hm := open_mem (A := A) h2 hy hlk hyt h6 h5
        have t4 := (ht i y hy).2.2
        have := hst (j, i) hm _ t3 (by simp) k hk _ t4 (by simp)
        exact this
      rcases Nat.le_total p j with h' | h'
      · refine ht.keepH h' (by omega) fun i y hi hij hy hyt => one i y hy hyt ?_ ?_
        · cases hx : anc A i j with
          | false => rfl
          | true => have := hd.anc_lt i j (by omega) hx; omega
        · cases hx : anc A j i with
          | false => rfl
          | true => have := (h.turn i y hy hyt).1 (hanc i hx); omega
      · refine (ht.keepH h' h.le fun i y hi hij hy hyt => one i y hy hyt ?_ ?_).symm
        · cases hx : anc A i j with
          | false => rfl
          | true => exact absurd (h.closed j i (by rw [← hR.len]; have := h.le; omega) ((h.turn i y hy hyt).2 hij) hx) hnj
        · cases hx : anc A j i with
          | false => rfl
          | true => have := hd.anc_lt j i hj hx; omega
    obtain ⟨t5, t6⟩ := stepV_v htu hag hkey t1
    refine step_sound hcall h1 h3 h.rel (fun n hn => h.own j ao n h2 hnj hn) (e1 := (dEnv l D (E 0) (E l.length)).put ao.dst (V j)) (s1 := S p) ?_ ?_
    · rw [stepOp_eq, t5]; rfl
    · intro a' w' G' hle hkp hrel
      refine hK p G' a' w' ⟨h.le, ?_, hrel.congr (dEnv_put hd ht h2 hD'), Owns.step hR.nums h.own h2 hkp (Nat.le_refl _) hDD, hclosed, h.gle.trans hle, h.keep.trans (keep_below (l := l) (i := j) (s := S p) hkp hbp)⟩
      intro i y hy hyt
      rw [hD', ← h.turn i y hy hyt]
      constructor
      · rintro (hi | rfl)
        · exact hi
        · rw [h2] at hy; injection hy with hy; subst hy; rw [htu] at hyt; cases hyt
      · exact .inl

theorem unl_zero {n : Nat} {listed : Array Bool} (h : unl n listed = 0) {j : Nat} (hj : j < n) : listed.getD j true = true := by
  unfold unl at h
  rw [List.countP_eq_zero] at h
  have := h j (List.mem_range.2 hj)
  simpa using this

theorem getD_both {listed : Array Bool} {j : Nat} (hj : j < listed.size) : listed.getD j true = listed.getD j false := by
  simp [hj]

/-- Any order. -/
theorem draw_sound (hcall : CallOK P B w0 call) (hR : RegOK P nt ops l) (hd : DrawOK ops l A) (ht : Trace call b l 0 E S V logs) (hst : Stable (openPairs A l) logs) (hb : b ≤ (S 0).ctr) {Q : Exit → Act → World → Prop} {G0 : Gh}
    (hK : Next P nt B w0 G0 b none (E l.length) (S l.length) (Q .normal)) : ∀ (fuel : Nat) (listed : Array Bool) (p : Nat) (G : Gh) (a : Act) (w : World), listed.size = ops.size → unl ops.size listed ≤ fuel →
      DInv P nt B w0 b ops l A E S G0 (fun j => listed.getD j false = true) p G a w → wpAny P .any ops Q fuel listed a w := by
  have done : ∀ (listed : Array Bool) (p : Nat) (G : Gh) (a : Act) (w : World), listed.size = ops.size → (∀ j, j < ops.size → listed.getD j false = true) →
      DInv P nt B w0 b ops l A E S G0 (fun j => listed.getD j false = true) p G a w → Q .normal a w := by
    intro listed p G a w hs hall h
    refine hK a w G h.gle h.keep ?_
    have hS : S l.length = S p := by
      refine ht.keepS h.le (Nat.le_refl _) fun i y hi hil hy => ?_
      cases hyt : y.op.turns with
      | false => rfl
      | true => have := (h.turn i y hy hyt).1 (hall i (by rw [← hR.len]; exact hil)); omega
    rw [hS]
    exact h.rel.congr fun t => (dEnv_all ht (fun j hj => hall j (by rw [← hR.len]; exact hj)) t).symm
  have ready : ∀ (listed : Array Bool), listed.size = ops.size → Region.ready .any ops listed = [] → ∀ j, j < ops.size → listed.getD j false = true := by
    intro listed hs hr j
    induction j using Nat.strongRecOn with
    | _ j ih =>
      intro hj
      cases hx : listed.getD j false with
      | true => rfl
      | false =>
        have : j ∈ Region.ready .any ops listed := by
          rw [mem_ready]
          refine ⟨by rw [getD_both (by omega)]; exact hx, ops[j], Array.getElem?_eq_getElem hj, fun e he hbd => ?_⟩
          have := hd.edge j _ (Array.getElem?_eq_getElem hj) _ (mem_edges he hbd)
          exact ih _ this (by omega)
        rw [hr] at this
        cases this
  intro fuel
  induction fuel with
  | zero =>
    intro listed p G a w hs hu h
    have hall : ∀ j, j < ops.size → listed.getD j false = true := fun j hj => by
      rw [← getD_both (by omega)]
      exact unl_zero (Nat.le_zero.1 hu) hj
    refine ⟨?_, done listed p G a w hs hall h⟩
    cases hr : Region.ready .any ops listed with
    | nil => rfl
    | cons j r =>
      have : j ∈ Region.ready .any ops listed := by rw [hr]; exact List.mem_cons_self
      obtain ⟨h1, o, h2, _⟩ := mem_ready.1 this
      have hj := lt_of_get h2
      rw [getD_both (by omega), hall j hj] at h1
      cases h1
  | succ fuel ih =>
    intro listed p G a w hs hu h
    refine ⟨fun hr => done listed p G a w hs (ready listed hs hr) h, fun j hj => ?_⟩
    obtain ⟨h1, o, h2, h3⟩ := mem_ready.1 hj
    have hjn := lt_of_get h2
    have hnj : ¬ listed.getD j false = true := by rw [← getD_both (by omega), h1]; simp
    refine draw_step hcall hR hd ht hst hb h (D' := fun i => (listed.setIfInBounds j true).getD i false = true) (fun i hi => ?_) hjn hnj (fun i hi => ?_) (fun i => ?_) fun p' G' a' w' hI => ?_
    · rcases Nat.lt_or_ge i listed.size with h' | h'
      · omega
      · simp [Array.getElem?_eq_none h'] at hi
    · have edges : ∀ k ∈ edgesOf o, listed.getD k false = true := by
        intro k hk
        unfold edgesOf at hk
        simp only [List.mem_map, List.mem_filter] at hk
        obtain ⟨x, ⟨hx, hbd⟩, rfl⟩ := hk
        exact h3 x (by simpa using hx) hbd
      rcases hd.anc j o h2 i hi with h4 | ⟨k, h4, h5⟩
      · exact edges i h4
      · exact h.closed i k (by have := hd.edge j o h2 k h4; omega) (edges k h4) h5
    · constructor
      · intro hi
        by_cases hij : j = i
        · exact .inr hij.symm
        · rw [getD_set_ne false hij] at hi; exact .inl hi
      · rintro (hi | rfl)
        · exact getD_set_true hi
        · have hjs : i < listed.size := by omega
          simp [hjs]
    · refine ih _ p' G' a' w' (by simp [hs]) ?_ hI
      have : unl ops.size (listed.setIfInBounds j true) < unl ops.size listed := by
        refine countP_lt (fun x hx => ?_) (List.mem_range.2 hjn) (by rw [h1]; rfl) ?_
        · by_cases hjx : j = x
          · subst hjx; rw [h1]; rfl
          · rw [getD_set_ne true hjx] at hx; exact hx
        · have hjs : j < listed.size := by omega
          simp [hjs]
      omega

theorem region_any (hm : P.follows .mixedOrders = true) (hcall : CallOK P B w0 call) {id : Nat} (hR : RegOK P nt ops l) (hd : DrawOK ops l A) {G : Gh} {e : AEnv} {s : ASt} {a : Act} {w : World} (h : Rel nt B w0 G e s a w) {e' : AEnv} {s' : ASt} {pre : List (Nat × List AV)}
    (hr : runOps call s.ctr l 0 e (s.enter (ownSum l) pre) = some (e', s', logs)) (hst : Stable (openPairs A l) logs) {Q : Exit → Act → World → Prop} (hK : Next P nt B w0 G s.ctr none e' s' (Q .normal)) : (Code.region id ops true).wp P Q a w := by
  obtain ⟨E, S, V, h1, h2, h3, h4, ht⟩ := runOps_trace hr
  refine wp_region_any hm ?_
  have hrep : ∀ j, (Array.replicate ops.size false).getD j false = false := by
    intro j
    by_cases hj : j < ops.size <;> simp [hj]
  refine draw_sound hcall hR hd ht hst (b := s.ctr) (by rw [h2]; exact Sim.ctr_le_enter _ _) (G0 := G) (by rw [h3, h4]; exact hK) ops.size _ 0 G a _ (by simp) ?_ ?_
  · unfold unl
    exact Nat.le_trans (List.countP_le_length) (by simp)
  · refine ⟨Nat.zero_le _, fun j o _ _ => by simp only [hrep]; simp, ?_, ?_, fun i j _ hD => (by simp only [hrep] at hD; exact absurd hD (by simp)), .refl G, .refl G _ _⟩
    · refine Rel.congr (e := e) (by rw [h2]; exact (h.enter _ _).drew) fun t => ?_
      rw [dEnv_out fun i hi => (by simp only [hrep] at hi; exact absurd hi (by simp)), h1]
    · rw [h2]
      exact Owns.enter hR.nums h.sim pre _

end
end Go.Proofs.YtggdpckdlcngpaaDoor.Abs
