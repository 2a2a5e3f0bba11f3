/- Regions and code: what the model does is what the abstract machine says. -/
import Derived.Test.YtggdpckdlcngpaaDoorAbs9
set_option linter.unusedVariables false
set_option linter.unusedSimpArgs false
namespace Go.Proofs.YtggdpckdlcngpaaDoor.Abs
open Go.RowKit

/-- The cells that were there at first never turn. -/
def Old (B : Nat) (w0 : World) (G : Gh) : Prop := ∀ a v, a.block < B → w0.cell? a = some v → G.C a = some v

theorem Old.mono {B : Nat} {w0 : World} {G G' : Gh} (h : Old B w0 G) (k : G.Le G') : Old B w0 G' := fun a v h1 h2 => k.C a v (h a v h1 h2)

/-- Slots, state, deferred calls; how many slots. -/
structure Rel (nt B : Nat) (w0 : World) (G : Gh) (e : AEnv) (s : ASt) (a : Act) (w : World) : Prop where
  sim : Sim B w0 G s w
  opd : OpdR G e a
  dfr : DfrR G s.dfr a.defers
  size : a.tmps.size = nt
  old : Old B w0 G

/-- A function's call, in the model. -/
def Enters (P : Program) (f : Nat) : Prop := ∃ fn, P.funcs[f]? = some fn ∧ (fn.name == "runtime.NumGoroutine") = false ∧ fn.body.isSome = true

def CallR (P : Program) (B : Nat) (w0 : World) (f : Nat) (args : List AV) (s : ASt) (v : AV) (s' : ASt) : Prop :=
  ∀ (G : Gh) (w : World) (cargs : Array Value), Sim B w0 G s w → Old B w0 G → VRs G args cargs.toList →
    Calls P f cargs w fun e w' => ∃ cv G', e = .returned cv ∧ VR G' v cv ∧ G.Le G' ∧ Sim B w0 G' s' w' ∧ G.Keep s.ctr none G'

def CallOK (P : Program) (B : Nat) (w0 : World) (call : Caller) : Prop :=
  ∀ f args s v s', call f args s = some (v, s') → Enters P f ∧ s'.dfr = s.dfr ∧ s.ctr ≤ s'.ctr ∧ CallR P B w0 f args s v s'

section
variable {P : Program} {nt B : Nat} {w0 : World} {G : Gh} {e : AEnv} {s : ASt} {a : Act} {w : World}

theorem get_put (e : AEnv) (d : Nat) (v : AV) (t : Nat) : (AEnv.put e (some d) v).get t = if d = t then v else e.get t := rfl

theorem OpdR.put (h : OpdR G e a) {dst : Option Nat} {v : AV} {cv : Value} (hv : VR G v cv) (hd : ∀ d, dst = some d → d < a.tmps.size) : OpdR G (e.put dst v) (a.put dst cv) := by
  cases dst with
  | none => exact h
  | some d =>
    intro t
    rw [get_put]
    simp only [Act.put]
    by_cases e1 : d = t
    · subst e1
      rw [if_pos rfl]
      have : (a.tmps.setIfInBounds d cv).getD d undef = cv := by
        rw [Array.getD_eq_getD_getElem?, Array.getElem?_setIfInBounds, if_pos rfl, if_pos (hd d rfl)]; rfl
      rw [this]; exact hv
    · rw [if_neg e1]
      have : (a.tmps.setIfInBounds d cv).getD t undef = a.tmps.getD t undef := by
        rw [Array.getD_eq_getD_getElem?, Array.getElem?_setIfInBounds, if_neg e1, Array.getD_eq_getD_getElem?]
      rw [this]; exact h t

theorem put_size (a : Act) (dst : Option Nat) (v : Value) : (a.put dst v).tmps.size = a.tmps.size := by
  cases dst <;> simp [Act.put]
theorem put_defers (a : Act) (dst : Option Nat) (v : Value) : (a.put dst v).defers = a.defers := by
  cases dst <;> rfl

theorem wanted_eq (h : OpdR G e a) {ops : Array Oper} {o : Oper} {g : Option (Nat × Bool)} (hg : compGuard ops o.guard = some g) : Region.wanted o (yielded ops a.tmps) = wanted e g := by
  unfold Region.wanted wanted
  cases ho : o.guard with
  | none => rw [ho] at hg; simp only [compGuard] at hg; injection hg with hg; subst hg; rfl
  | some jw =>
    obtain ⟨j, want⟩ := jw
    rw [ho] at hg
    simp only [compGuard] at hg
    cases hs : slotOf ops j with
    | none => rw [hs] at hg; cases hg
    | some t =>
      rw [hs] at hg; injection hg with hg; subst hg
      unfold slotOf at hs
      simp only [yielded, hs, Option.bind_some]
      have ht := h t
      rw [Array.getD_eq_getD_getElem?] at ht
      cases hq : a.tmps[t]? with
      | none =>
        rw [hq] at ht
        simp only [Option.getD_none] at ht
        generalize e.get t = q at *
        cases q <;> first | rfl | (exact absurd ht.bool_inv (by simp [undef]))
      | some c =>
        rw [hq] at ht
        simp only [Option.getD_some] at ht
        generalize e.get t = q at *
        cases ht <;> first | rfl | (rename_i b'; cases b' <;> cases want <;> rfl)

/-- What stands behind a step. -/
def Next (P : Program) (nt B : Nat) (w0 : World) (G : Gh) (n : Nat) (own : Option Nat) (e : AEnv) (s : ASt) (K : Act → World → Prop) : Prop :=
  ∀ a w G', G.Le G' → G.Keep n own G' → Rel nt B w0 G' e s a w → K a w

theorem kd_call {k : Nat} {op : Op} {x : AOp} (hc : compOp P k op = some x) (hk : x.kd = .c) : ∃ c f args f' args', op = .call c ∧ c.callee = .value f ∧ c.args.toList = args ∧ x = .call f' args' ∧ compOpd f = some f' ∧ compOpds args = some args' := by
  cases x <;> simp [AOp.kd] at hk
  rename_i f' args'
  cases op <;> simp only [compOp] at hc <;> try (cases hc; done)
  case call c =>
    refine ⟨c, ?_⟩
    unfold compCall at hc
    split at hc
    · rename_i f hcal
      split at hc
      · rename_i p q hp hq
        injection hc with hc; injection hc with h1 h2; subst h1; subst h2
        exact ⟨f, _, _, _, rfl, hcal, rfl, rfl, hp, hq⟩
      · cases hc
    · split at hc
      · cases hy : compOpd _ with
        | none => rw [hy] at hc; cases hc
        | some y' =>
          rw [hy] at hc
          simp only [Option.bind_some, compLen] at hc
          split at hc <;> first | cases hc | (injection hc with hc; cases hc)
      · cases hc
    · split at hc
      · split at hc
        · unfold compAppend at hc
          split at hc
          · cases hc
          · split at hc
            · split at hc
              · injection hc with hc; cases hc
              · cases hc
            · cases hc
          · cases hc
        · cases hc
      · cases hc
    · split at hc
      · split at hc
        · injection hc with hc; cases hc
        · cases hc
      · cases hc
    · split at hc
      · split at hc
        · injection hc with hc; cases hc
        · cases hc
      · cases hc
    · cases hc
  case makeFunc fn first captured =>
    cases fn <;> simp only at hc <;> try (cases hc; done)
    split at hc
    · injection hc with hc; cases hc
    · cases hc
  case makeMap t r => cases r <;> simp only at hc <;> first | (cases hc; done) | (injection hc with hc; cases hc)
  case slice t y lo hi mx =>
    cases mx <;> simp only at hc <;> try (cases hc; done)
    simp only [compSlice] at hc
    repeat' (first
      | (cases hc; done)
      | (injection hc with hc; cases hc; done)
      | (simp only [Option.map_eq_some_iff] at hc; obtain ⟨_, _, hc⟩ := hc; cases hc; done)
      | split at hc)
  all_goals (try simp only [compBin] at hc)
  all_goals (repeat' (first
    | (cases hc; done)
    | (injection hc with hc; cases hc; done)
    | (simp only [Option.map_eq_some_iff] at hc; obtain ⟨_, _, hc⟩ := hc; cases hc; done)
    | (simp only [Option.bind_eq_some_iff, compConv] at hc; obtain ⟨_, _, hc⟩ := hc)
    | split at hc))

/-- One operation, at a state that tells what it needs. -/
theorem step_sound {call : Caller} (hcall : CallOK P B w0 call) {ops : Array Oper} {i k b : Nat} {o : Oper} {ao : AOper} (hi : ops[i]? = some o) (hc : compOper P ops nt k o = some ao) (h : Rel nt B w0 G e s a w)
    (hown : ∀ n, ao.op.ownId b = some n → n < s.ctr ∧ G.Fresh n) {e1 : AEnv} {s1 : ASt} (hs : stepOp call b ao e s = some (e1, s1)) {Q : Exit → Act → World → Prop} {K : Act → World → Prop}
    (hK : Next P nt B w0 G s.ctr (ao.op.ownId b) e1 s1 K) : wpOp P ops Q i K a w := by
  unfold compOper at hc
  split at hc
  case h_2 => cases hc
  rename_i x g hx hg
  split at hc
  case isFalse => cases hc
  rename_i hdst
  injection hc with hc; subst hc
  have hd : ∀ d, o.dst = some d → d < a.tmps.size := by
    intro d hd
    rw [hd] at hdst
    rw [h.size]
    simpa [dstOK] using hdst
  simp only [wpOp, hi]
  rw [wanted_eq h.opd hg]
  unfold stepOp at hs
  simp only at hs
  by_cases hw : wanted e g = true
  · rw [if_pos hw] at hs ⊢
    left
    have fin : ∀ v, OpOK P B w0 G s w o a (x.ownId b) v s1 → e1 = e.put o.dst v → o.wp P a w K Q := by
      rintro v ⟨cv, w', G', ds, h1, h2, h3, h4, h5, h6⟩ rfl
      refine h1 K Q (hK _ w' G' h3 h6 ⟨h4, ?_, ?_, ?_, ?_⟩)
      · exact OpdR.put (a := { a with defers := ds }) (h.opd.mono h3) h2 hd
      · rw [put_defers]; exact h5
      · rw [put_size]; exact h.size
      · exact h.old.mono h3
    cases hr : runOp call b x e s with
    | none => rw [hr] at hs; cases hs
    | some r =>
      rw [hr] at hs
      obtain ⟨v, s2⟩ := r
      injection hs with hs; injection hs with hs1 hs2; subst hs1; subst hs2
      unfold runOp at hr
      split at hr
      · rename_i hk
        cases hov : opV (ev e) b s.heap x with
        | none => rw [hov] at hr; cases hr
        | some v' =>
          rw [hov] at hr; injection hr with hr; injection hr with hr1 hr2; subst hr1; subst hr2
          exact fin _ (opV_sound h.sim h.opd h.dfr hx hk hov hown) rfl
      · exact fin _ (opW_sound h.sim h.opd h.dfr hx hr hown) rfl
      · rename_i hk
        obtain ⟨c, f, args, f', args', ho, hcal, hal, rfl, hf, ha⟩ := kd_call hx hk
        simp only at hr
        cases hcv : callV (ev e) f' args' with
        | none => rw [hcv] at hr; cases hr
        | some gl =>
          obtain ⟨g', l⟩ := gl
          rw [hcv] at hr
          simp only at hr
          obtain ⟨⟨fn, hfn, hname, hbody⟩, hdf, hctr, hcr⟩ := hcall g' l s v s2 hr
          unfold callV at hcv
          have vf := h.opd.opd hf
          have vl := h.opd.opds ha
          generalize hq : ev e f' = q at *
          cases q <;> simp only at hcv <;> try (cases hcv; done)
          rename_i g0 first captured
          injection hcv with hcv; injection hcv with e1 e2; subst e1; subst e2
          obtain ⟨p, r, hp, h1, h2⟩ := vf.func_inv
          have hargs : VRs G (first ++ args'.map (ev e) ++ captured) ((p ++ c.args.map a.eval) ++ r).toList := by
            have : (p ++ Array.map a.eval c.args ++ r).toList = p.toList ++ c.args.toList.map a.eval ++ r.toList := by simp
            rw [this, hal]
            exact (h1.append vl).append h2
          have hrun : (execOp a.eval o).run P w = .ok (.enter g0 (p ++ c.args.map a.eval ++ r)) w := by
            simp only [execOp, ho, resolve, hcal, hp, Deferred.ofValue, Sem.run_bind, Sem.run_pure, Result.andThen_ok, invoke, callFunc, run_program, hfn, hname, Bool.false_eq_true, if_false]
            rw [if_neg (by simp [Option.isSome_iff_ne_none.1 hbody])]
            rfl
          unfold Oper.wp
          rw [hrun, Oper.upon_enter]
          refine (hcr G w _ h.sim h.old hargs).mono ?_
          rintro en w' ⟨cv, G', rfl, h3, h4, h5, h6⟩
          refine hK _ w' G' h4 ?_ ⟨h5, ?_, ?_, ?_, ?_⟩
          · exact fun i hi _ hf => h6 i hi (by simp) hf
          · exact OpdR.put (h.opd.mono h4) h3 hd
          · rw [put_defers, hdf]; exact h.dfr.mono h4
          · rw [put_size]; exact h.size
          · exact h.old.mono h4
  · rw [if_neg hw] at hs
    simp only [hw, Bool.false_eq_true, if_false]
    injection hs with hs; injection hs with hs1 hs2; subst hs1; subst hs2
    refine hK _ w G (.refl G) (.refl G _ _) ⟨h.sim, OpdR.put h.opd VR.udf_ hd, ?_, ?_, h.old⟩
    · rw [put_defers]; exact h.dfr
    · rw [put_size]; exact h.size

end
end Go.Proofs.YtggdpckdlcngpaaDoor.Abs
