/- Calls: what the model does is what the abstract machine says. -/
import Derived.Test.YtggdpckdlcngpaaDoorAbs15
set_option linter.unusedVariables false
set_option linter.unusedSimpArgs false
set_option linter.unnecessarySimpa false
namespace Go.Proofs.YtggdpckdlcngpaaDoor.Abs
open Go.RowKit

theorem argEnv_get : ∀ (l : List AV) (i t : Nat), (argEnv i l).get t = if i ≤ t then (l[t - i]?).getD udf else udf
  | [], i, t => by simp [argEnv, AEnv.get]
  | v :: l, i, t => by
    simp only [argEnv, AEnv.get, argEnv_get l]
    by_cases h : i = t
    · subst h; simp
    · rw [if_neg h]
      by_cases h1 : i ≤ t
      · rw [if_pos (by omega), if_pos h1]
        rw [show t - i = (t - (i + 1)) + 1 from by omega]
        simp
      · rw [if_neg (by omega), if_neg h1]

section
variable {P : Program} {nt B : Nat} {w0 : World}

theorem arg_opd {G : Gh} {l : List AV} {args : Array Value} (h : VRs G l args.toList) (k : Nat) : OpdR G (argEnv 0 l) { tmps := args ++ Array.replicate k undef, defers := [] } := by
  intro t
  rw [argEnv_get]
  simp only [Nat.zero_le, if_true, Nat.sub_zero]
  have hs : args.size = l.length := by simpa using h.1
  rw [Array.getD_eq_getD_getElem?]
  by_cases ht : t < l.length
  · rw [List.getElem?_eq_getElem ht, Array.getElem?_append_left (by omega)]
    have : args[t]? = some args[t] := Array.getElem?_eq_getElem (by omega)
    rw [this]
    exact h.2 t _ _ (List.getElem?_eq_getElem ht) (by simpa using this)
  · rw [List.getElem?_eq_none (by omega), Array.getElem?_append_right (by omega)]
    by_cases hk : t - args.size < k
    · rw [Array.getElem?_eq_getElem (by simpa using hk)]
      simp only [Array.getElem_replicate, Option.getD_some, Option.getD_none]
      exact VR.udf_
    · rw [Array.getElem?_eq_none (by simpa using hk)]
      exact VR.udf_

/-- The compiled functions are the program's. -/
def CodeOK (X : Ctx) : Prop := ∀ f af, X.code f = some af → ∃ fn, X.P.funcs[f]? = some fn ∧ compFn X.P fn = some af

/-- The given laws of functions hold. -/
def OrcOK (X : Ctx) (B : Nat) (w0 : World) : Prop := ∀ f g, X.orc f = some g → ∀ args s v s', g args s = some (v, s') → Enters X.P f ∧ s'.dfr = s.dfr ∧ s.ctr ≤ s'.ctr ∧ CallR X.P B w0 f args s v s'

theorem compFn_spec {fn : Func} {af : AFun} (h : compFn P fn = some af) : ∃ c, fn.body = some c ∧ compile P fn.ntmps c = some af.body ∧ compRes P fn.results.toList = some af.results ∧ af.nt = fn.ntmps ∧ (fn.name == "runtime.NumGoroutine") = false := by
  unfold compFn at h
  split at h
  case h_2 => cases h
  rename_i c hc
  split at h
  case h_2 => cases h
  rename_i b r hb hr
  split at h
  · cases h
  · rename_i hn
    injection h with h; subst h
    exact ⟨c, hc, hb, hr, rfl, by simpa using hn⟩

theorem callFunc_run {f : Nat} (h : Enters P f) (args : Array Value) (w : World) : (callFunc f args).run P w = .ok (.enter f args) w := by
  obtain ⟨fn, hfn, hname, hbody⟩ := h
  simp only [callFunc, run_program, Sem.run_bind, Result.andThen_ok, hfn, hname, Bool.false_eq_true, if_false]
  rw [if_neg (by simp [Option.isSome_iff_ne_none.1 hbody])]
  rfl

theorem CodeOK.enters {X : Ctx} (hX : CodeOK X) {f : Nat} {af : AFun} (h : X.code f = some af) : Enters X.P f := by
  obtain ⟨fn, h1, h2⟩ := hX f af h
  obtain ⟨c, h3, _, _, _, h4⟩ := compFn_spec h2
  exact ⟨fn, h1, h4, by rw [h3]; rfl⟩

theorem DfrR.nil_inv {G : Gh} {ds : List Deferred} (h : DfrR G [] ds) : ds = [] := by
  cases ds with
  | nil => rfl
  | cons d ds => exact h.elim

/-- A function's body, from its arguments. -/
theorem body_sound {X : Ctx} (hm : X.P.follows .mixedOrders = true) (hX : CodeOK X) {call : Caller} (hcall : CallOK X.P B w0 call) {f : Nat} {af : AFun} (hf : X.code f = some af) {l : List AV} {args : Array Value} (hn : l.length ≤ af.nt) {n : Nat} {x : AExit} {e' : AEnv} {s s' : ASt}
    (hr : arun call n af.body (argEnv 0 l) s = some (x, e', s')) (hs0 : s.dfr = []) {G : Gh} {w : World} (hs : Sim B w0 G s w) (hold : Old B w0 G) (ha : VRs G l args.toList) :
    ∃ fn c, X.P.funcs[f]? = some fn ∧ fn.body = some c ∧ compRes X.P fn.results.toList = some af.results ∧ ∀ Q, Next X.P af.nt B w0 G s.ctr none e' s' (Q x.exit_) → c.wp X.P Q { tmps := args ++ Array.replicate (fn.ntmps - args.size) undef, defers := [] } w := by
  obtain ⟨fn, h1, h2⟩ := hX f af hf
  obtain ⟨c, h3, h4, h5, h6, _⟩ := compFn_spec h2
  refine ⟨fn, c, h1, h3, h5, fun Q hK => ?_⟩
  have hsz : args.size = l.length := by simpa using ha.1
  rw [h6] at hK
  exact arun_sound hm hcall n c af.body G (argEnv 0 l) s _ w x e' s' Q h4 ⟨hs, arg_opd ha _, by rw [hs0]; trivial, by simp only [Array.size_append, Array.size_replicate]; omega, hold⟩ hr hK

/-- A deferred call. -/
theorem dcall_sound {X : Ctx} (hm : X.P.follows .mixedOrders = true) (hX : CodeOK X) {call : Caller} (hcall : CallOK X.P B w0 call) {n f : Nat} {l : List AV} {s s' : ASt} (h : dcall X call n f l s = some s') (hs0 : s.dfr = []) :
    Enters X.P f ∧ s'.dfr = [] ∧ s.ctr ≤ s'.ctr ∧ ∀ (G : Gh) (w : World) (args : Array Value), Sim B w0 G s w → Old B w0 G → VRs G l args.toList →
      CallsD X.P f args .returning w fun e u' w' => u' = .returning ∧ ∃ v G', e = .returned v ∧ G.Le G' ∧ Sim B w0 G' s' w' ∧ G.Keep s.ctr none G' := by
  unfold dcall at h
  split at h
  case h_2 => cases h
  rename_i af _ hf
  split at h
  case isFalse => cases h
  rename_i hn
  unfold finish0 at h
  split at h
  · cases h
  · rename_i x e s1 hne hr
    split at h
    case h_2 => cases h
    rename_i r hd hre
    injection h with h; subst h
    refine ⟨hX.enters hf, hd, arun_ctr hcall _ _ _ _ _ _ _ hr, fun G w args hs hold ha => ?_⟩
    obtain ⟨fn, c, h1, h2, h3, h4⟩ := body_sound hm hX hcall hf hn hr hs0 hs hold ha
    refine callsD_of_wp (R := fun e w' => ∃ v G', e = .returned v ∧ G.Le G' ∧ Sim B w0 G' s1 w' ∧ G.Keep s.ctr none G') h1 h2 (h4 _ ?_)
    intro a w' G' hle hkp hrel
    obtain ⟨cv, h5, h6⟩ := results_sound hrel.sim hrel.opd h3 hre
    have hdd : a.defers = [] := by
      have := hrel.dfr
      rw [hd] at this
      exact this.nil_inv
    cases x with
    | normal => exact ⟨hdd, cv, h5, cv, G', rfl, hle, hrel.sim, hkp⟩
    | ret => exact ⟨hdd, cv, h5, cv, G', rfl, hle, hrel.sim, hkp⟩
    | exit id => exact (hne id rfl).elim
  · cases h

theorem Leaves_of {fn : Func} {tmps : Array Value} {R : Ending → World → Prop} {d : Deferred} {ds : List Deferred} {w : World} {f : Nat} {cap : Array Value} (ht : d.target = .fn (.func f) cap) (hE : Enters P f)
    (h : CallsD P f (d.args ++ cap) .returning w fun e u' w' => u' = .returning ∧ ∃ v, e = .returned v ∧ Leaves P fn tmps R ds .returning w') : Leaves P fn tmps R (d :: ds) .returning w := by
  refine ⟨by simp, .func f, cap, f, d.args ++ cap, ht, ?_, h.mono ?_⟩
  · rw [ht]
    simp only [invoke]
    exact callFunc_run hE _ w
  · rintro e u' w' ⟨rfl, v, rfl, h⟩
    exact h

theorem dfr_sound {X : Ctx} (hm : X.P.follows .mixedOrders = true) (hX : CodeOK X) {call : Caller} (hcall : CallOK X.P B w0 call) {n : Nat} : ∀ {dl : List (Nat × List AV)} {s s' : ASt}, runDfr (dcall X call n) dl s = some s' → s.dfr = [] →
    s'.dfr = [] ∧ s.ctr ≤ s'.ctr ∧ ∀ (G : Gh) (w : World) (ds : List Deferred) (fn : Func) (tmps : Array Value) (R : Ending → World → Prop), Sim B w0 G s w → Old B w0 G → DfrR G dl ds →
      (∀ G' w', G.Le G' → G.Keep s.ctr none G' → Sim B w0 G' s' w' → ∃ v, (results fn tmps).run X.P w' = .ok v w' ∧ R (.returned v) w') → Leaves X.P fn tmps R ds .returning w
  | [], s, s', h, hs0 => by
    simp only [runDfr] at h
    injection h with h; subst h
    refine ⟨hs0, Nat.le_refl _, fun G w ds fn tmps R hs hold hd hK => ?_⟩
    rw [hd.nil_inv]
    exact hK G w (.refl G) (.refl G _ _) hs
  | (f, l) :: dl, s, s', h, hs0 => by
    simp only [runDfr] at h
    split at h
    case h_2 => cases h
    rename_i s1 h1
    obtain ⟨k1, k2, k3, k4⟩ := dcall_sound hm hX hcall h1 hs0
    obtain ⟨m1, m2, m3⟩ := dfr_sound hm hX hcall h k2
    refine ⟨m1, Nat.le_trans k3 m2, fun G w ds fn tmps R hs hold hd hK => ?_⟩
    cases ds with
    | nil => exact hd.elim
    | cons d ds =>
      obtain ⟨⟨cap, h2, h3⟩, h4⟩ := hd
      refine Leaves_of h2 k1 ((k4 G w _ hs hold h3).mono ?_)
      rintro e u' w' ⟨rfl, v, G', rfl, h5, h6, h7⟩
      refine ⟨rfl, v, rfl, m3 G' w' ds fn tmps R h6 (hold.mono h5) (h4.mono h5) fun G'' w'' h8 h9 h10 => hK G'' w'' (h5.trans h8) (h7.trans fun i hi ho hf => h9 i (by omega) ho hf) h10⟩

/-- Calls of every depth. -/
theorem acall_ok {X : Ctx} (hm : X.P.follows .mixedOrders = true) (hX : CodeOK X) (hO : OrcOK X B w0) : ∀ n, CallOK X.P B w0 (acall X n) := by
  intro n
  induction n with
  | zero => intro f args s v s' h; simp [acall] at h
  | succ n ih =>
    intro f args s v s' h
    simp only [acall] at h
    split at h
    · rename_i g hg
      exact hO f g hg args s v s' h
    · split at h
      case h_2 => cases h
      rename_i af hf
      split at h
      case isFalse => cases h
      rename_i hn
      unfold finish at h
      split at h
      · cases h
      · rename_i x e s1 hne hr
        split at h
        case h_2 => cases h
        rename_i s2 hd
        split at h
        case h_2 => cases h
        rename_i l hl
        injection h with h; injection h with h1 h2; subst h1; subst h2
        obtain ⟨m1, m2, m3⟩ := dfr_sound hm hX ih hd rfl
        have hctr := arun_ctr ih _ _ _ _ _ _ _ hr
        refine ⟨hX.enters hf, rfl, Nat.le_trans hctr m2, ?_⟩
        intro G w cargs hs hold ha
        have hs' : Sim B w0 G { s with dfr := [] } w := ⟨hs.below, hs.hB, hs.num, hs.inj, hs.obj, hs.comm, hs.own⟩
        obtain ⟨fn, c, h1, h2, h3, h4⟩ := body_sound hm hX ih hf hn hr rfl hs' hold ha
        refine calls_of_wp_defers h1 h2 (h4 _ ?_)
        intro a w' G' hle hkp hrel
        have hs1 : Sim B w0 G' { s1 with dfr := [] } w' := ⟨hrel.sim.below, hrel.sim.hB, hrel.sim.num, hrel.sim.inj, hrel.sim.obj, hrel.sim.comm, hrel.sim.own⟩
        have fin : Leaves X.P fn a.tmps (fun e w' => ∃ cv G', e = .returned cv ∧ VR G' (oneOf l) cv ∧ G.Le G' ∧ Sim B w0 G' { s2 with dfr := s.dfr } w' ∧ G.Keep s.ctr none G') a.defers .returning w' := by
          refine m3 G' w' a.defers fn a.tmps _ hs1 hrel.old hrel.dfr fun G'' w'' h5 h6 h7 => ?_
          obtain ⟨cv, h8, h9⟩ := results_sound h7 (hrel.opd.mono h5) h3 hl
          exact ⟨cv, h8, cv, G'', rfl, h9, hle.trans h5, ⟨h7.below, h7.hB, h7.num, h7.inj, h7.obj, h7.comm, h7.own⟩, hkp.trans fun i hi ho hf => h6 i (Nat.lt_of_lt_of_le hi hctr) ho hf⟩
        cases x with
        | normal => exact fin
        | ret => exact fin
        | exit id => exact (hne id rfl).elim
      · cases h

end
end Go.Proofs.YtggdpckdlcngpaaDoor.Abs
