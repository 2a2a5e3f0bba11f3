/- Code: what the model does is what the abstract machine says. -/
import Derived.Test.YtggdpckdlcngpaaDoorAbs14
import Derived.LoopN
set_option linter.unusedVariables false
set_option linter.unusedSimpArgs false
namespace Go.Proofs.YtggdpckdlcngpaaDoor.Abs
open Go.RowKit

def AExit.exit_ : AExit → Exit
  | .normal => .normal
  | .exit id => .exit id
  | .ret => .ret

section
variable {P : Program} {nt B : Nat} {w0 : World} {call : Caller}

theorem runOps_ctr (hcall : CallOK P B w0 call) {b : Nat} {l : List AOper} {i : Nat} {e e' : AEnv} {s s' : ASt} {logs : List Log} (h : runOps call b l i e s = some (e', s', logs)) : s.ctr ≤ s'.ctr := by
  obtain ⟨E, S, V, _, h2, _, h4, ht⟩ := runOps_trace h
  rw [← h2, ← h4]
  exact ht.le hcall (Nat.zero_le _) (Nat.le_refl _)

theorem arun_ctr (hcall : CallOK P B w0 call) : ∀ (n : Nat) (c : ACode) (e : AEnv) (s : ASt) (x : AExit) (e' : AEnv) (s' : ASt), arun call n c e s = some (x, e', s') → s.ctr ≤ s'.ctr := by
  intro n
  induction n with
  | zero => intro c e s x e' s' h; simp [arun] at h
  | succ n ih =>
    intro c e s x e' s' h
    cases c <;> simp only [arun] at h
    case skip => injection h with h; injection h with h1 h; injection h with h2 h3; subst h3; exact Nat.le_refl _
    case exit => injection h with h; injection h with h1 h; injection h with h2 h3; subst h3; exact Nat.le_refl _
    case ret => injection h with h; injection h with h1 h; injection h with h2 h3; subst h3; exact Nat.le_refl _
    case region na pre ops pairs =>
      split at h
      · rename_i e1 s1 l hr
        split at h
        · injection h with h; injection h with h1 h; injection h with h2 h3; subst h3
          exact Nat.le_trans (Sim.ctr_le_enter na pre) (runOps_ctr hcall hr)
        · cases h
      · cases h
    case seq a b =>
      split at h
      · rename_i e1 s1 hr
        exact Nat.le_trans (ih a e s _ e1 s1 hr) (ih b e1 s1 x e' s' h)
      · exact ih a e s x e' s' h
    case cond y a b =>
      split at h
      · exact ih _ e s x e' s' h
      · cases h
    case block id b =>
      split at h
      · rename_i id' e1 s1 hr
        have := ih b e s _ e1 s1 hr
        split at h
        · injection h with h; injection h with h1 h; injection h with h2 h3; subst h3; exact this
        · injection h with h; injection h with h1 h; injection h with h2 h3; subst h3; exact this
      · exact ih b e s x e' s' h
    case loop b =>
      split at h
      · rename_i e1 s1 hr
        exact Nat.le_trans (ih b e s _ e1 s1 hr) (ih (.loop b) e1 s1 x e' s' h)
      · exact ih b e s x e' s' h
    case scope b => exact ih b e s x e' s' h

theorem Next.of {G G1 : Gh} {n n1 : Nat} {e : AEnv} {s : ASt} {K : Act → World → Prop} (h : Next P nt B w0 G n none e s K) (hle : G.Le G1) (hk : G.Keep n none G1) (hn : n ≤ n1) : Next P nt B w0 G1 n1 none e s K :=
  fun a w G' h1 h2 h3 => h a w G' (hle.trans h1) (hk.trans fun i hi ho hf => h2 i (by omega) ho hf) h3

theorem arun_sound (hm : P.follows .mixedOrders = true) (hcall : CallOK P B w0 call) : ∀ (n : Nat) (c : Code) (ac : ACode) (G : Gh) (e : AEnv) (s : ASt) (a : Act) (w : World) (x : AExit) (e' : AEnv) (s' : ASt) (Q : Exit → Act → World → Prop),
    compile P nt c = some ac → Rel nt B w0 G e s a w → arun call n ac e s = some (x, e', s') → Next P nt B w0 G s.ctr none e' s' (Q x.exit_) → c.wp P Q a w := by
  intro n
  induction n using Nat.strongRecOn with
  | _ n IH =>
    intro c ac G e s a w x e' s' Q hc h hr hK
    cases n with
    | zero => simp [arun] at hr
    | succ n =>
      have ih := IH n (Nat.lt_succ_self n)
      have now : ∀ {x' : AExit}, (some (x', e, s) : Option (AExit × AEnv × ASt)) = some (x, e', s') → Q x'.exit_ a w := by
        intro x' h'
        injection h' with h'; injection h' with h1 h'; injection h' with h2 h3
        subst h1; subst h2; subst h3
        exact hK a w G (.refl G) (.refl G _ _) h
      cases c <;> simp only [compile] at hc <;> try (cases hc; done)
      case skip => injection hc with hc; subst hc; exact wp_skip (now hr)
      case label => injection hc with hc; subst hc; exact wp_label (now hr)
      case exit => injection hc with hc; subst hc; exact wp_exit (now hr)
      case ret => injection hc with hc; subst hc; exact wp_ret (now hr)
      case region id ops draw =>
        obtain ⟨l, pairs, rfl, hR, hd⟩ := compRegion_spec hc
        simp only [arun] at hr
        split at hr
        case h_2 => cases hr
        rename_i e1 s1 logs hrun
        split at hr
        case isFalse => cases hr
        rename_i hst
        injection hr with hr; injection hr with h1 hr; injection hr with h2 h3
        subst h1; subst h2; subst h3
        cases draw with
        | false => exact region_seq hcall hR h hrun hK
        | true =>
          obtain ⟨h4, rfl⟩ := hd rfl
          exact region_any hm hcall hR (drawOK_spec hR.len h4) h hrun hst hK
      case seq p q =>
        split at hc
        case h_2 => cases hc
        rename_i p' q' hp hq
        injection hc with hc; subst hc
        simp only [arun] at hr
        refine wp_seq ?_
        split at hr
        · rename_i e1 s1 hr1
          refine ih p p' G e s a w .normal e1 s1 _ hp h hr1 ?_
          intro a1 w1 G1 hle hkp h1
          exact ih q q' G1 e1 s1 a1 w1 x e' s' Q hq h1 hr (hK.of hle hkp (arun_ctr hcall _ _ _ _ _ _ _ hr1))
        · rename_i hne
          refine ih p p' G e s a w x e' s' _ hp h hr ?_
          intro a1 w1 G1 hle hkp h1
          have := hK a1 w1 G1 hle hkp h1
          cases x with
          | normal => exact absurd hr (hne _ _)
          | exit id => exact this
          | ret => exact this
      case cond y p q =>
        split at hc
        case h_2 => cases hc
        rename_i y' p' q' hy hp hq
        injection hc with hc; subst hc
        simp only [arun] at hr
        split at hr
        case h_2 => cases hr
        rename_i t ht
        have hv := h.opd.opd hy
        rw [ht] at hv
        refine wp_cond hv.bool_inv ?_
        cases t with
        | true => exact ih p p' G e s a w x e' s' Q hp h hr hK
        | false => exact ih q q' G e s a w x e' s' Q hq h hr hK
      case block id p =>
        simp only [Option.map_eq_some_iff] at hc
        obtain ⟨p', hp, rfl⟩ := hc
        simp only [arun] at hr
        refine wp_block ?_
        split at hr
        · rename_i id' e1 s1 hr1
          refine ih p p' G e s a w (.exit id') e1 s1 _ hp h hr1 ?_
          intro a1 w1 G1 hle hkp h1
          simp only [AExit.exit_, Exit.inBlock]
          split at hr
          · rename_i he
            rw [if_pos he]
            injection hr with hr; injection hr with h2 hr; injection hr with h3 h4
            subst h2; subst h3; subst h4
            exact hK a1 w1 G1 hle hkp h1
          · rename_i he
            rw [if_neg he]
            injection hr with hr; injection hr with h2 hr; injection hr with h3 h4
            subst h2; subst h3; subst h4
            exact hK a1 w1 G1 hle hkp h1
        · rename_i hne
          refine ih p p' G e s a w x e' s' _ hp h hr ?_
          intro a1 w1 G1 hle hkp h1
          have := hK a1 w1 G1 hle hkp h1
          cases x with
          | normal => exact this
          | exit id => exact absurd hr (hne _ _ _)
          | ret => exact this
      case loop p =>
        simp only [Option.map_eq_some_iff] at hc
        obtain ⟨p', hp, rfl⟩ := hc
        have key : ∀ (m : Nat), m ≤ n + 1 → ∀ (G : Gh) (e : AEnv) (s : ASt) (a : Act) (w : World), Rel nt B w0 G e s a w → arun call m (.loop p') e s = some (x, e', s') → Next P nt B w0 G s.ctr none e' s' (Q x.exit_) → Code.rounds P p Q m a w := by
          intro m
          induction m with
          | zero => intro _ G e s a w _ hr; simp [arun] at hr
          | succ m im =>
            intro hm' G e s a w h hr hK
            simp only [arun] at hr
            rw [rounds_succ]
            split at hr
            · rename_i e1 s1 hr1
              refine IH m (by omega) p p' G e s a w .normal e1 s1 _ hp h hr1 ?_
              intro a1 w1 G1 hle hkp h1
              exact im (by omega) G1 e1 s1 a1 w1 h1 hr (hK.of hle hkp (arun_ctr hcall _ _ _ _ _ _ _ hr1))
            · rename_i hne
              refine IH m (by omega) p p' G e s a w x e' s' _ hp h hr ?_
              intro a1 w1 G1 hle hkp h1
              have := hK a1 w1 G1 hle hkp h1
              cases x with
              | normal => exact absurd hr (hne _ _)
              | exit id => exact this
              | ret => exact this
        exact wp_loop_rounds (n + 1) (key (n + 1) (Nat.le_refl _) G e s a w h hr hK)
      case scope p =>
        simp only [Option.map_eq_some_iff] at hc
        obtain ⟨p', hp, rfl⟩ := hc
        simp only [arun] at hr
        refine wp_scope_straight ?_
        refine ih p p' G e s a w x e' s' _ hp h hr ?_
        intro a1 w1 G1 hle hkp h1
        have := hK a1 w1 G1 hle hkp h1
        cases x <;> exact this

/-! ### Results -/

/-- A result's value. -/
def resM (tmps : Array Value) : ResultVar → Sem Value
  | .tmp t => pure (tmps.getD t undef)
  | .cell a t => do loadVar t (← asAddr (tmps.getD a undef))

theorem resV_sound {G : Gh} {e : AEnv} {s : ASt} {a : Act} {w : World} (h : Sim B w0 G s w) (ho : OpdR G e a) : ∀ {rs : List ResultVar} {ar : List ARes} {l : List AV}, compRes P rs = some ar → resV e s ar = some l →
    ∃ cs, (rs.mapM (resM a.tmps)).run P w = .ok cs w ∧ VRs G l cs
  | [], ar, l, hc, hl => by
    simp only [compRes] at hc
    injection hc with hc; subst hc
    simp only [resV] at hl
    injection hl with hl; subst hl
    exact ⟨[], by simp, VRs.nil G⟩
  | .tmp t :: rs, ar, l, hc, hl => by
    simp only [compRes, Option.map_eq_some_iff] at hc
    obtain ⟨r, hr, rfl⟩ := hc
    simp only [resV, Option.map_eq_some_iff] at hl
    obtain ⟨l', hl', rfl⟩ := hl
    obtain ⟨cs, h1, h2⟩ := resV_sound h ho hr hl'
    refine ⟨a.tmps.getD t undef :: cs, ?_, VRs.cons (ho t) h2⟩
    simp only [List.mapM_cons, Sem.run_bind, resM, Sem.run_pure, Result.andThen_ok]
    rw [h1]
    rfl
  | .cell x t :: rs, ar, l, hc, hl => by
    simp only [compRes] at hc
    split at hc
    case h_2 => cases hc
    rename_i g sz r hg hs hr
    split at hc
    case isFalse => cases hc
    injection hc with hc; subst hc
    simp only [resV] at hl
    split at hl
    case h_2 => cases hl
    rename_i v l' hv hl'
    injection hl with hl; subst hl
    obtain ⟨cs, h1, h2⟩ := resV_sound h ho hr hl'
    obtain ⟨ad, cv, h3, h4, h5⟩ := ld_sound (P := P) h hg hs hv (ho x)
    refine ⟨cv :: cs, ?_, VRs.cons h5 h2⟩
    simp only [List.mapM_cons, Sem.run_bind, resM, h3, asAddr, Sem.run_pure, Result.andThen_ok, h4]
    rw [h1]
    rfl

theorem results_sound {G : Gh} {e : AEnv} {s : ASt} {a : Act} {w : World} (h : Sim B w0 G s w) (ho : OpdR G e a) {fn : Func} {ar : List ARes} {l : List AV} (hc : compRes P fn.results.toList = some ar) (hl : resV e s ar = some l) :
    ∃ cv, (results fn a.tmps).run P w = .ok cv w ∧ VR G (oneOf l) cv := by
  obtain ⟨cs, h1, h2⟩ := resV_sound h ho hc hl
  have hrun : (fn.results.mapM (resM a.tmps)).run P w = .ok cs.toArray w := by
    rw [Array.mapM_eq_mapM_toList, Sem.run_map, h1]
    rfl
  have hre : results fn a.tmps = (do let vs ← fn.results.mapM (resM a.tmps); pure (if h : vs.size = 1 then vs[0] else .tuple vs)) := rfl
  rw [hre]
  rw [Sem.run_bind, hrun]
  simp only [Result.andThen_ok, Sem.run_pure]
  refine ⟨_, rfl, ?_⟩
  match l, h2 with
  | [], h2 => rw [h2.nil_inv]; exact VR.tuple' (VRs.nil G)
  | [v], h2 =>
    obtain ⟨y, c', rfl, h3, h4⟩ := h2.cons_inv
    rw [h4.nil_inv]
    exact h3
  | v :: v' :: l, h2 =>
    obtain ⟨y, c', rfl, h3, h4⟩ := h2.cons_inv
    obtain ⟨y', c'', rfl, h5, h6⟩ := h4.cons_inv
    have : ¬ (y :: y' :: c'').toArray.size = 1 := by simp
    rw [dif_neg this]
    exact VR.tuple' h2

end
end Go.Proofs.YtggdpckdlcngpaaDoor.Abs
