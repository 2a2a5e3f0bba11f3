/- Regions in the order of the text. -/
import Derived.Test.YtggdpckdlcngpaaDoorAbs11
set_option linter.unusedVariables false
set_option linter.unusedSimpArgs false
namespace Go.Proofs.YtggdpckdlcngpaaDoor.Abs
open Go.RowKit

/-- The states of a run, one by one. -/
def Trace (call : Caller) (b : Nat) (l : List AOper) (i : Nat) (E : Nat → AEnv) (S : Nat → ASt) (V : Nat → AV) (logs : List Log) : Prop :=
  ∀ j o, l[j]? = some o → stepV call b o (E j) (S j) = some (V j, S (j + 1)) ∧ E (j + 1) = (E j).put o.dst (V j) ∧ Log.mk (i + j) (stepKey b o (E j)) (S j).heap (S (j + 1)).heap ∈ logs

theorem runOps_trace {call : Caller} {b : Nat} : ∀ {l : List AOper} {i : Nat} {e e' : AEnv} {s s' : ASt} {logs : List Log}, runOps call b l i e s = some (e', s', logs) →
    ∃ E S V, E 0 = e ∧ S 0 = s ∧ E l.length = e' ∧ S l.length = s' ∧ Trace call b l i E S V logs
  | [], i, e, e', s, s', logs, h => by
    simp only [runOps] at h
    injection h with h; injection h with h1 h; injection h with h2 h3
    subst h1; subst h2
    exact ⟨fun _ => e, fun _ => s, fun _ => udf, rfl, rfl, rfl, rfl, fun j o hj => by simp at hj⟩
  | o :: l, i, e, e', s, s', logs, h => by
    simp only [runOps] at h
    split at h
    case h_2 => cases h
    rename_i e1 s1 h1
    split at h
    case h_2 => cases h
    rename_i e2 s2 lg h2
    injection h with h; injection h with h3 h; injection h with h4 h5
    subst h3; subst h4; subst h5
    obtain ⟨E, S, V, hE, hS, hE', hS', ht⟩ := runOps_trace h2
    rw [stepOp_eq] at h1
    simp only [Option.map_eq_some_iff] at h1
    obtain ⟨r, hr, hr2⟩ := h1
    injection hr2 with hr3 hr4; subst hr3; subst hr4
    refine ⟨fun j => match j with | 0 => e | j + 1 => E j, fun j => match j with | 0 => s | j + 1 => S j, fun j => match j with | 0 => r.1 | j + 1 => V j, rfl, rfl, hE', hS', ?_⟩
    intro j p hj
    cases j with
    | zero =>
      simp only [List.getElem?_cons_zero, Option.some.injEq] at hj
      subst hj
      refine ⟨?_, ?_, ?_⟩
      · show stepV call b o e s = some (r.1, S 0)
        rw [hr, hS]
      · exact hE
      · show Log.mk (i + 0) _ _ (S 0).heap ∈ _
        rw [hS]
        exact List.mem_cons_self
    | succ j =>
      obtain ⟨k1, k2, k3⟩ := ht j p hj
      exact ⟨k1, k2, List.mem_cons_of_mem _ (by rw [show i + (j + 1) = i + 1 + j from by omega]; exact k3)⟩

theorem Trace.le {P : Program} {B : Nat} {w0 : World} {call : Caller} (hcall : CallOK P B w0 call) {b i : Nat} {l : List AOper} {E : Nat → AEnv} {S : Nat → ASt} {V : Nat → AV} {logs : List Log} (ht : Trace call b l i E S V logs) :
    ∀ {p q : Nat}, p ≤ q → q ≤ l.length → (S p).ctr ≤ (S q).ctr := by
  intro p q h hq
  induction q with
  | zero => rw [show p = 0 from by omega]; exact Nat.le_refl _
  | succ q ih =>
    rcases Nat.lt_or_ge p (q + 1) with h' | h'
    · have hlt : q < l.length := hq
      exact Nat.le_trans (ih (by omega) (by omega)) (stepV_ctr hcall (ht q _ (List.getElem?_eq_getElem hlt)).1)
    · rw [show p = q + 1 from by omega]; exact Nat.le_refl _

theorem ownId_num (b : Nat) (x : AOp) : x.ownId b = x.num.map (b + ·) := by
  cases x <;> rfl

theorem num_own {x : AOp} {k : Nat} (h : x.num = some k) : x.own = 1 := by
  cases x <;> first | rfl | cases h

/-- The numbers of a region's own objects. -/
theorem numsOK_spec : ∀ {l : List AOper} {k : Nat}, numsOK l k = true → (∀ (j : Nat) (o : AOper) (n : Nat), l[j]? = some o → o.op.num = some n → k ≤ n ∧ n < k + ownSum l) ∧
    ∀ (i j : Nat) (o p : AOper) (n m : Nat), l[i]? = some o → l[j]? = some p → o.op.num = some n → p.op.num = some m → i < j → n < m
  | [], k, h => ⟨fun j o n hj => by simp at hj, fun i j o p n m hi => by simp at hi⟩
  | x :: l, k, h => by
    simp only [numsOK, Bool.and_eq_true] at h
    obtain ⟨h1, h2⟩ := h
    obtain ⟨k1, k2⟩ := numsOK_spec h2
    have hx : ∀ n, x.op.num = some n → n = k := by
      intro n hn
      rw [hn] at h1
      simpa using h1
    constructor
    · intro j o n hj hn
      cases j with
      | zero =>
        simp only [List.getElem?_cons_zero, Option.some.injEq] at hj
        subst hj
        have := hx n hn
        have := num_own hn
        simp only [ownSum]
        omega
      | succ j =>
        have := k1 j o n hj hn
        simp only [ownSum]
        omega
    · intro i j o p n m hi hj hn hm hij
      cases j with
      | zero => omega
      | succ j =>
        have := k1 j p m hj hm
        cases i with
        | zero =>
          simp only [List.getElem?_cons_zero, Option.some.injEq] at hi
          subst hi
          have := hx n hn
          have := num_own hn
          omega
        | succ i => exact k2 i j o p n m hi hj hn hm (by omega)

theorem compOps_spec {P : Program} {ops : Array Oper} {nt : Nat} : ∀ {l : List Oper} {k : Nat} {al : List AOper}, compOps P ops nt l k = some al →
    al.length = l.length ∧ ∀ (j : Nat) (o : Oper), l[j]? = some o → ∃ ao k', al[j]? = some ao ∧ compOper P ops nt k' o = some ao
  | [], k, al, h => by simp only [compOps] at h; injection h with h; subst h; exact ⟨rfl, fun j o hj => by simp at hj⟩
  | x :: l, k, al, h => by
    simp only [compOps] at h
    split at h
    case h_2 => cases h
    rename_i a ha
    simp only [Option.map_eq_some_iff] at h
    obtain ⟨r, hr, rfl⟩ := h
    obtain ⟨h1, h2⟩ := compOps_spec hr
    refine ⟨by simp [h1], fun j o hj => ?_⟩
    cases j with
    | zero =>
      simp only [List.getElem?_cons_zero, Option.some.injEq] at hj
      subst hj
      exact ⟨a, k, rfl, ha⟩
    | succ j => exact h2 j o hj

section
variable {P : Program} {nt B : Nat} {w0 : World} {G : Gh} {e : AEnv} {s : ASt} {a : Act} {w : World}

theorem preSet_spec (b : Nat) : ∀ (pre : List (Nat × List AV)) (s : ASt), (preSet b pre s).ctr = s.ctr ∧ (preSet b pre s).dfr = s.dfr ∧ ∀ i, i < b → (preSet b pre s).heap i = s.heap i
  | [], s => ⟨rfl, rfl, fun _ _ => rfl⟩
  | (k, z) :: ps, s => by
    obtain ⟨h1, h2, h3⟩ := preSet_spec b ps (s.set (b + k) (.cells z))
    refine ⟨h1, h2, fun i hi => ?_⟩
    simp only [preSet]
    rw [h3 i hi]
    simp only [ASt.set]
    rw [if_neg (by omega)]

theorem Sim.enter (h : Sim B w0 G s w) (na : Nat) (pre : List (Nat × List AV)) : Sim B w0 G (s.enter na pre) w := by
  obtain ⟨h1, _, h3⟩ := preSet_spec s.ctr pre { s with ctr := s.ctr + na }
  exact h.state (by simp only [ASt.enter, h1]; omega) fun i hi _ => h3 i hi

theorem Rel.enter (h : Rel nt B w0 G e s a w) (na : Nat) (pre : List (Nat × List AV)) : Rel nt B w0 G e (s.enter na pre) a w := by
  obtain ⟨_, h2, _⟩ := preSet_spec s.ctr pre { s with ctr := s.ctr + na }
  refine ⟨h.sim.enter na pre, h.opd, ?_, h.size, h.old⟩
  simp only [ASt.enter, h2]
  exact h.dfr

theorem Rel.drew (h : Rel nt B w0 G e s a w) : Rel nt B w0 G e s a { w with drawn := w.drawn + 1 } := ⟨h.sim.drew, h.opd, h.dfr, h.size, h.old⟩

/-- What a region's compiled operations are. -/
structure RegOK (P : Program) (nt : Nat) (ops : Array Oper) (l : List AOper) : Prop where
  len : l.length = ops.size
  op : ∀ (j : Nat) (o : Oper), ops[j]? = some o → ∃ ao k, l[j]? = some ao ∧ compOper P ops nt k o = some ao
  nums : numsOK l 0 = true

theorem RegOK.get {ops : Array Oper} {l : List AOper} (h : RegOK P nt ops l) {j : Nat} (hj : j < ops.size) : ∃ o ao k, ops[j]? = some o ∧ l[j]? = some ao ∧ compOper P ops nt k o = some ao := by
  have : ops[j]? = some ops[j] := Array.getElem?_eq_getElem hj
  obtain ⟨ao, k, h1, h2⟩ := h.op j _ this
  exact ⟨_, ao, k, this, h1, h2⟩

theorem compRegion_spec {ops : Array Oper} {draw : Bool} {c : ACode} (h : compRegion P nt ops draw = some c) :
    ∃ l pairs, c = .region (ownSum l) (preOf l) l pairs ∧ RegOK P nt ops l ∧ (draw = true → drawOK (ancsFrom ops.toList []) ops.toList l = true ∧ pairs = openPairs (ancsFrom ops.toList []) l) := by
  unfold compRegion at h
  split at h
  case h_2 => cases h
  rename_i l hl
  obtain ⟨h1, h2⟩ := compOps_spec hl
  by_cases hn : numsOK l 0 = false
  · rw [if_pos hn] at h; cases h
  rw [if_neg hn] at h
  have hR : RegOK P nt ops l := ⟨by simpa using h1, fun j o hj => h2 j o (by simpa using hj), by simpa using hn⟩
  cases draw with
  | false =>
    simp only [Bool.false_eq_true, if_false] at h
    injection h with h; subst h
    exact ⟨l, _, rfl, hR, by simp⟩
  | true =>
    simp only [if_true] at h
    split at h
    · rename_i hd
      injection h with h; subst h
      exact ⟨l, _, rfl, hR, fun _ => ⟨hd, rfl⟩⟩
    · cases h

/-- What a run of a region starts from: numbers for what it makes. -/
def Owns (b : Nat) (l : List AOper) (G : Gh) (s : ASt) (D : Nat → Prop) : Prop :=
  ∀ j o n, l[j]? = some o → ¬ D j → o.op.ownId b = some n → n < s.ctr ∧ G.Fresh n

theorem Owns.enter {l : List AOper} (hn : numsOK l 0 = true) (h : Sim B w0 G s w) (pre : List (Nat × List AV)) (D : Nat → Prop) : Owns s.ctr l G (s.enter (ownSum l) pre) D := by
  intro j o n hj _ ho
  rw [ownId_num] at ho
  simp only [Option.map_eq_some_iff] at ho
  obtain ⟨k, hk, rfl⟩ := ho
  have h1 := (numsOK_spec hn).1 j o k hj hk
  refine ⟨?_, h.fresh_ge (by omega)⟩
  obtain ⟨h2, _, _⟩ := preSet_spec s.ctr pre { s with ctr := s.ctr + ownSum l }
  simp only [ASt.enter, h2]
  omega

/-- The numbers of two operations are not the same. -/
theorem nums_ne {l : List AOper} (hn : numsOK l 0 = true) {b i j : Nat} {o p : AOper} {n : Nat} (hi : l[i]? = some o) (hj : l[j]? = some p) (h1 : o.op.ownId b = some n) (h2 : p.op.ownId b = some n) : i = j := by
  rw [ownId_num] at h1 h2
  simp only [Option.map_eq_some_iff] at h1 h2
  obtain ⟨k, hk, e1⟩ := h1
  obtain ⟨m, hm, e2⟩ := h2
  rcases Nat.lt_trichotomy i j with h | h | h
  · have := (numsOK_spec hn).2 i j o p k m hi hj hk hm h; omega
  · exact h
  · have := (numsOK_spec hn).2 j i p o m k hj hi hm hk h; omega

theorem Owns.step {l : List AOper} (hn : numsOK l 0 = true) {b i : Nat} {o : AOper} {G G' : Gh} {s s' : ASt} {D D' : Nat → Prop} (h : Owns b l G s D) (hi : l[i]? = some o) (hk : G.Keep s.ctr (o.op.ownId b) G')
    (hc : s.ctr ≤ s'.ctr) (hD : ∀ j, ¬ D' j → ¬ D j ∧ j ≠ i) : Owns b l G' s' D' := by
  intro j p n hj hd hp
  obtain ⟨h1, h2⟩ := hD j hd
  obtain ⟨h3, h4⟩ := h j p n hj h1 hp
  exact ⟨Nat.lt_of_lt_of_le h3 hc, hk n h3 (fun he => h2 (nums_ne hn hi hj he hp).symm) h4⟩

/-- The numbers below the region's stay. -/
theorem keep_below {l : List AOper} {b i n : Nat} {o : AOper} {G G' : Gh} {s : ASt} (hk : G.Keep n (o.op.ownId b) G') (hc : b ≤ n) : G.Keep b none G' := by
  intro j hj _ hf
  refine hk j (by omega) ?_ hf
  rw [ownId_num]
  intro he
  simp only [Option.map_eq_some_iff] at he
  obtain ⟨k, _, e1⟩ := he
  omega

theorem Gh.Keep.trans {G G' G'' : Gh} {n : Nat} (h : G.Keep n none G') (k : G'.Keep n none G'') : G.Keep n none G'' :=
  fun i hi ho hf => k i hi ho (h i hi ho hf)

/-- The operations from one on, one by one. -/
theorem seq_sound {call : Caller} (hcall : CallOK P B w0 call) {ops : Array Oper} {l : List AOper} (hR : RegOK P nt ops l) {b : Nat} {E : Nat → AEnv} {S : Nat → ASt} {V : Nat → AV} {logs : List Log}
    (ht : Trace call b l 0 E S V logs) (hb : b ≤ (S 0).ctr) {Q : Exit → Act → World → Prop} {G0 : Gh} (hK : Next P nt B w0 G0 b none (E l.length) (S l.length) (Q .normal)) :
    ∀ (m i : Nat) (G : Gh) (a : Act) (w : World), i + m = ops.size → Rel nt B w0 G (E i) (S i) a w → Owns b l G (S i) (· < i) → G0.Le G → G0.Keep b none G → wpOps P ops Q (List.range' i m) a w := by
  intro m
  induction m with
  | zero =>
    intro i G a w hi h _ hle hkp
    rw [show i = l.length from by rw [hR.len]; omega] at h
    simp only [List.range'_zero, wpOps]
    exact hK a w G hle hkp h
  | succ m ih =>
    intro i G a w hi h ho hle hkp
    rw [List.range'_succ, wpOps_cons]
    obtain ⟨o, ao, k, h1, h2, h3⟩ := hR.get (j := i) (by omega)
    obtain ⟨t1, t2, _⟩ := ht i ao h2
    have hlt : i < l.length := by rw [hR.len]; omega
    have hbi : b ≤ (S i).ctr := Nat.le_trans hb (ht.le hcall (Nat.zero_le i) (by omega))
    refine step_sound hcall h1 h3 h (fun n hn => ho i ao n h2 (Nat.lt_irrefl i) hn) (e1 := E (i + 1)) (s1 := S (i + 1)) ?_ ?_
    · rw [stepOp_eq, t1, t2]; rfl
    · intro a' w' G' hle' hkp' hrel
      refine ih (i + 1) G' a' w' (by omega) hrel (Owns.step hR.nums ho h2 hkp' (stepV_ctr hcall t1) fun j hj => ⟨by omega, by omega⟩) (hle.trans hle') (hkp.trans (keep_below (l := l) (i := i) (s := S i) hkp' hbi))

theorem Sim.ctr_le_enter (na : Nat) (pre : List (Nat × List AV)) : s.ctr ≤ (s.enter na pre).ctr := by
  obtain ⟨h2, _, _⟩ := preSet_spec s.ctr pre { s with ctr := s.ctr + na }
  simp only [ASt.enter, h2]
  omega

theorem region_seq {call : Caller} (hcall : CallOK P B w0 call) {id : Nat} {ops : Array Oper} {l : List AOper} (hR : RegOK P nt ops l) (h : Rel nt B w0 G e s a w) {e' : AEnv} {s' : ASt} {logs : List Log} {pre : List (Nat × List AV)}
    (hr : runOps call s.ctr l 0 e (s.enter (ownSum l) pre) = some (e', s', logs)) {Q : Exit → Act → World → Prop} (hK : Next P nt B w0 G s.ctr none e' s' (Q .normal)) : (Code.region id ops false).wp P Q a w := by
  obtain ⟨E, S, V, h1, h2, h3, h4, ht⟩ := runOps_trace hr
  refine wp_region ?_
  rw [List.range_eq_range']
  refine seq_sound hcall hR ht (b := s.ctr) (by rw [h2]; exact Sim.ctr_le_enter _ _) (G0 := G) (by rw [h3, h4]; exact hK) ops.size 0 G a w (by omega) ?_ ?_ (.refl G) (.refl G _ _)
  · rw [h1, h2]; exact h.enter _ _
  · rw [h2]; exact Owns.enter hR.nums h.sim pre _

end
end Go.Proofs.YtggdpckdlcngpaaDoor.Abs
