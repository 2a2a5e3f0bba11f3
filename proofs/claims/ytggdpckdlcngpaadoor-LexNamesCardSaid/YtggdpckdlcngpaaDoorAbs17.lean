/- Fuel, and what holds behind a run. -/
import Derived.Test.YtggdpckdlcngpaaDoorAbs16
set_option linter.unusedVariables false
set_option linter.unusedSimpArgs false
namespace Go.Proofs.YtggdpckdlcngpaaDoor.Abs
open Go.RowKit

/-! ### More fuel -/

def More (c c' : Caller) : Prop := ∀ f l s r, c f l s = some r → c' f l s = some r

theorem More.refl (c : Caller) : More c c := fun _ _ _ _ h => h

theorem runOp_more {c c' : Caller} (h : More c c') {b : Nat} {o : AOp} {e : AEnv} {s : ASt} {r : AV × ASt} (hr : runOp c b o e s = some r) : runOp c' b o e s = some r := by
  unfold runOp at *
  split at hr
  · exact hr
  · exact hr
  · split at hr
    · split at hr
      · exact h _ _ _ _ hr
      · cases hr
    · cases hr

theorem stepOp_more {c c' : Caller} (h : More c c') {b : Nat} {o : AOper} {e : AEnv} {s : ASt} {r : AEnv × ASt} (hr : stepOp c b o e s = some r) : stepOp c' b o e s = some r := by
  unfold stepOp at *
  by_cases hw : wanted e o.guard = true
  · rw [if_pos hw] at *
    cases hx : runOp c b o.op e s with
    | none => rw [hx] at hr; cases hr
    | some x =>
      rw [runOp_more h hx]
      rw [hx] at hr
      exact hr
  · rw [if_neg hw] at *
    exact hr

theorem runOps_more {c c' : Caller} (h : More c c') {b : Nat} : ∀ {l : List AOper} {i : Nat} {e : AEnv} {s : ASt} {r : AEnv × ASt × List Log}, runOps c b l i e s = some r → runOps c' b l i e s = some r
  | [], _, _, _, _, hr => hr
  | o :: os, i, e, s, r, hr => by
    simp only [runOps] at hr ⊢
    split at hr
    case h_2 => cases hr
    rename_i e1 s1 h1
    rw [stepOp_more h h1]
    simp only
    split at hr
    case h_2 => cases hr
    rename_i e2 s2 l h2
    rw [runOps_more h h2]
    exact hr

theorem arun_more {c c' : Caller} (h : More c c') : ∀ {n m : Nat} {a : ACode} {e : AEnv} {s : ASt} {r : AExit × AEnv × ASt}, n ≤ m → arun c n a e s = some r → arun c' m a e s = some r := by
  intro n
  induction n with
  | zero => intro m a e s r _ hr; simp [arun] at hr
  | succ n ih =>
    intro m a e s r hm hr
    obtain ⟨m, rfl⟩ : ∃ k, m = k + 1 := ⟨m - 1, by omega⟩
    have hm' : n ≤ m := by omega
    cases a <;> simp only [arun] at hr ⊢
    case region na pre ops pairs =>
      split at hr
      · rename_i e1 s1 l h1
        rw [runOps_more h h1]
        exact hr
      · cases hr
    case seq a b =>
      split at hr
      · rename_i e1 s1 h1
        rw [ih hm' h1]
        exact ih hm' hr
      · rename_i hne
        rw [ih hm' hr]
        obtain ⟨x, e', s'⟩ := r
        cases x with
        | normal => exact absurd hr (hne _ _)
        | exit id => rfl
        | ret => rfl
    case cond y a b =>
      split at hr
      · exact ih hm' hr
      · cases hr
    case block id b =>
      split at hr
      · rename_i id' e1 s1 h1
        rw [ih hm' h1]
        exact hr
      · rename_i hne
        rw [ih hm' hr]
        obtain ⟨x, e', s'⟩ := r
        cases x with
        | normal => rfl
        | exit id' => exact absurd hr (hne _ _ _)
        | ret => rfl
    case loop b =>
      split at hr
      · rename_i e1 s1 h1
        rw [ih hm' h1]
        exact ih hm' hr
      · rename_i hne
        rw [ih hm' hr]
        obtain ⟨x, e', s'⟩ := r
        cases x with
        | normal => exact absurd hr (hne _ _)
        | exit id => rfl
        | ret => rfl
    case scope b => exact ih hm' hr
    all_goals exact hr

theorem finish0_more {fn : AFun} {r r' : Option (AExit × AEnv × ASt)} (h : ∀ x, r = some x → r' = some x) {s : ASt} (hr : finish0 fn r = some s) : finish0 fn r' = some s := by
  cases r with
  | none => cases hr
  | some x => rw [h x rfl]; exact hr

theorem runDfr_more {c c' : Nat → List AV → ASt → Option ASt} (h : ∀ f l s r, c f l s = some r → c' f l s = some r) : ∀ {ds : List (Nat × List AV)} {s s' : ASt}, runDfr c ds s = some s' → runDfr c' ds s = some s'
  | [], _, _, hr => hr
  | (f, l) :: ds, s, s', hr => by
    simp only [runDfr] at hr ⊢
    split at hr
    · rename_i s1 h1
      rw [h _ _ _ _ h1]
      exact runDfr_more h hr
    · cases hr

theorem finish_more {c c' : Nat → List AV → ASt → Option ASt} (hc : ∀ f l s r, c f l s = some r → c' f l s = some r) {fn : AFun} {old : List (Nat × List AV)} {r r' : Option (AExit × AEnv × ASt)} (h : ∀ x, r = some x → r' = some x) {y : AV × ASt} (hr : finish c fn old r = some y) : finish c' fn old r' = some y := by
  cases r with
  | none => cases hr
  | some x =>
    rw [h x rfl]
    obtain ⟨x, e, s⟩ := x
    cases x with
    | exit id => cases hr
    | normal =>
      simp only [finish] at hr ⊢
      split at hr
      · rename_i s1 h1
        rw [runDfr_more hc h1]
        exact hr
      · cases hr
    | ret =>
      simp only [finish] at hr ⊢
      split at hr
      · rename_i s1 h1
        rw [runDfr_more hc h1]
        exact hr
      · cases hr

theorem dcall_more {X : Ctx} {c c' : Caller} (h : More c c') {n m : Nat} (hm : n ≤ m) (f : Nat) (l : List AV) (s r : ASt) (hr : dcall X c n f l s = some r) : dcall X c' m f l s = some r := by
  unfold dcall at *
  split at hr
  · split at hr
    · rename_i hn
      rw [if_pos hn]
      exact finish0_more (fun x hx => arun_more h hm hx) hr
    · cases hr
  · cases hr

theorem acall_succ (X : Ctx) : ∀ n, More (acall X n) (acall X (n + 1)) := by
  intro n
  induction n with
  | zero => intro f l s r hr; simp [acall] at hr
  | succ n ih =>
    intro f l s r hr
    simp only [acall] at hr
    conv => lhs; rw [acall]
    split at hr
    · exact hr
    · split at hr
      · split at hr
        · simp only [*, if_true]
          exact finish_more (fun f l s r hr => dcall_more ih (Nat.le_succ n) f l s r hr) (fun x hx => arun_more ih (Nat.le_succ n) hx) hr
        · cases hr
      · cases hr

theorem acall_more (X : Ctx) {n m : Nat} (h : n ≤ m) : More (acall X n) (acall X m) := by
  induction m with
  | zero => rw [show n = 0 from by omega]; exact .refl _
  | succ m ih =>
    rcases Nat.lt_or_ge n (m + 1) with h' | h'
    · exact fun f l s r hr => acall_succ X m f l s r (ih (by omega) f l s r hr)
    · rw [show n = m + 1 from by omega]; exact .refl _

/-! ### What holds behind a run -/

def Does (X : Ctx) (f : Nat) (l : List AV) (s : ASt) (K : AV → ASt → Prop) : Prop := ∃ n v s', acall X n f l s = some (v, s') ∧ K v s'

theorem Does.mono {X : Ctx} {f : Nat} {l : List AV} {s : ASt} {K K' : AV → ASt → Prop} (h : Does X f l s K) (hk : ∀ v s', K v s' → K' v s') : Does X f l s K' := by
  obtain ⟨n, v, s', h1, h2⟩ := h
  exact ⟨n, v, s', h1, hk v s' h2⟩

def Runs (X : Ctx) (c : ACode) (e : AEnv) (s : ASt) (K : AExit → AEnv → ASt → Prop) : Prop := ∃ n x e' s', arun (acall X n) n c e s = some (x, e', s') ∧ K x e' s'

def optK {α : Type} : Option α → (α → Prop) → Prop
  | some a, K => K a
  | none, _ => False

def condV (v : AV) (p q : Prop) : Prop := match v with
  | .bool true => p
  | .bool false => q
  | _ => False

def callK (X : Ctx) (s : ASt) (K : AV → ASt → Prop) : Option (Nat × List AV) → Prop
  | some (g, l) => Does X g l s K
  | none => False

def opK (X : Ctx) (b : Nat) (o : AOp) (e : AEnv) (s : ASt) (K : AV → ASt → Prop) : Prop :=
  match o with
  | .call f args => callK X s K (callV (ev e) f args)
  | o => match o.kd with
    | .v => optK (opV (ev e) b s.heap o) fun v => K v s
    | _ => optK (opW (ev e) b s o) fun r => K r.1 r.2

def guardK (e : AEnv) (g : Option (Nat × Bool)) (p q : Prop) : Prop :=
  match g with
  | none => p
  | some (t, want) => condV (.bool (wanted e (some (t, want)))) p q

/-- The operations of a region; logs are kept of those that are asked for. -/
def opsK (X : Ctx) (b : Nat) (mask : List Nat) : List AOper → Nat → List Log → AEnv → ASt → (AEnv → ASt → List Log → Prop) → Prop
  | [], _, lg, e, s, K => K e s lg
  | o :: os, i, lg, e, s, K => guardK e o.guard
      (opK X b o.op e s fun v s' => opsK X b mask os (i + 1) (if mask.contains i then { i, key := opKey (ev e) b o.op, h := s.heap, h' := s'.heap } :: lg else lg) (e.put o.dst v) s' K)
      (opsK X b mask os (i + 1) lg (e.put o.dst udf) s K)

def maskOf (pairs : List (Nat × Nat)) : List Nat := pairs.flatMap fun p => [p.1, p.2]

/-- The logs that matter. -/
def stable (pairs : List (Nat × Nat)) (lg : List Log) : Prop := match pairs with
  | [] => True
  | ps => Stable ps lg

def thenK (N : AEnv → ASt → Prop) (K : AExit → AEnv → ASt → Prop) : AExit → AEnv → ASt → Prop
  | .normal, e, s => N e s
  | x, e, s => K x e s

def blockK (id : Nat) (K : AExit → AEnv → ASt → Prop) : AExit → AEnv → ASt → Prop
  | .exit id', e, s => if id' = id then K .normal e s else K (.exit id') e s
  | x, e, s => K x e s

def aw (X : Ctx) : ACode → (AExit → AEnv → ASt → Prop) → AEnv → ASt → Prop
  | .skip, K, e, s => K .normal e s
  | .region na pre ops pairs, K, e, s => opsK X s.ctr (maskOf pairs) ops 0 [] e (s.enter na pre) fun e' s' lg => stable pairs lg ∧ K .normal e' s'
  | .seq a b, K, e, s => aw X a (thenK (aw X b K) K) e s
  | .cond x a b, K, e, s => condV (ev e x) (aw X a K e s) (aw X b K e s)
  | .block id b, K, e, s => aw X b (blockK id K) e s
  | .loop b, K, e, s => Runs X (.loop b) e s K
  | .exit id, K, e, s => K (.exit id) e s
  | .scope b, K, e, s => aw X b K e s
  | .ret, K, e, s => K .ret e s

section
variable {X : Ctx}

theorem optK_some {α : Type} {x : Option α} {K : α → Prop} (h : optK x K) : ∃ a, x = some a ∧ K a := by
  cases x with
  | none => exact h.elim
  | some a => exact ⟨a, rfl, h⟩

theorem condV_elim {v : AV} {p q : Prop} (h : condV v p q) : ∃ t, v = .bool t ∧ (t = true → p) ∧ (t = false → q) := by
  cases v with
  | bool t => cases t <;> exact ⟨_, rfl, by first | exact fun _ => h | simp, by first | exact fun _ => h | simp⟩
  | _ => exact h.elim

theorem opK_sound {b : Nat} {o : AOp} {e : AEnv} {s : ASt} {K : AV → ASt → Prop} (h : opK X b o e s K) : ∃ n v s', runOp (acall X n) b o e s = some (v, s') ∧ K v s' := by
  have hv : ∀ o : AOp, o.kd = .v → optK (opV (ev e) b s.heap o) (fun v => K v s) → ∃ n v s', runOp (acall X n) b o e s = some (v, s') ∧ K v s' := by
    intro o hk h
    obtain ⟨v, h1, h2⟩ := optK_some h
    refine ⟨0, v, s, ?_, h2⟩
    unfold runOp
    rw [hk]
    simp only [h1, Option.map_some]
  have hw : ∀ o : AOp, o.kd = .w → optK (opW (ev e) b s o) (fun r => K r.1 r.2) → ∃ n v s', runOp (acall X n) b o e s = some (v, s') ∧ K v s' := by
    intro o hk h
    obtain ⟨⟨v, s'⟩, h1, h2⟩ := optK_some h
    refine ⟨0, v, s', ?_, h2⟩
    unfold runOp
    rw [hk]
    simp only [h1]
  cases o <;> first
    | exact hv _ rfl h
    | exact hw _ rfl h
    | skip
  rename_i f args
  simp only [opK] at h
  unfold runOp
  simp only [AOp.kd]
  cases hc : callV (ev e) f args with
  | none => rw [hc] at h; exact h.elim
  | some gl =>
    obtain ⟨g, l⟩ := gl
    rw [hc] at h
    obtain ⟨n, v, s', h1, h2⟩ := h
    exact ⟨n, v, s', h1, h2⟩

theorem guardK_elim {e : AEnv} {g : Option (Nat × Bool)} {p q : Prop} (h : guardK e g p q) : (wanted e g = true ∧ p) ∨ (wanted e g = false ∧ q) := by
  cases g with
  | none => exact .inl ⟨rfl, h⟩
  | some tw =>
    obtain ⟨t, want⟩ := tw
    obtain ⟨b, h1, h2, h3⟩ := condV_elim h
    injection h1 with h1
    cases b with
    | true => exact .inl ⟨h1, h2 rfl⟩
    | false => exact .inr ⟨h1, h3 rfl⟩

/-- Of the wanted logs none is missing. -/
def Holds (mask : List Nat) (full lg : List Log) : Prop := ∀ r ∈ full, r.i ∈ mask → r ∈ lg ∨ (r.key = none ∧ r.h = r.h')

theorem opsK_sound {b : Nat} {mask : List Nat} : ∀ {ops : List AOper} {i : Nat} {lg : List Log} {e : AEnv} {s : ASt} {K : AEnv → ASt → List Log → Prop}, opsK X b mask ops i lg e s K →
    ∃ n e' s' full lg', runOps (acall X n) b ops i e s = some (e', s', full) ∧ K e' s' lg' ∧ (∀ r ∈ lg, r ∈ lg') ∧ Holds mask full lg'
  | [], i, lg, e, s, K, h => ⟨0, e, s, [], lg, rfl, h, fun r hr => hr, fun r hr => by simp at hr⟩
  | o :: os, i, lg, e, s, K, h => by
    simp only [opsK] at h
    rcases guardK_elim h with ⟨hw, h⟩ | ⟨hw, h⟩
    · obtain ⟨n1, v, s1, h1, h2⟩ := opK_sound h
      obtain ⟨n2, e', s', full, lg', h3, h4, h5, h6⟩ := opsK_sound h2
      have hst : stepOp (acall X (max n1 n2)) b o e s = some (e.put o.dst v, s1) := by
        unfold stepOp
        rw [if_pos hw, runOp_more (acall_more X (Nat.le_max_left n1 n2)) h1]
        rfl
      refine ⟨max n1 n2, e', s', { i, key := if wanted e o.guard then opKey (ev e) b o.op else none, h := s.heap, h' := s1.heap } :: full, lg', ?_, h4, ?_, ?_⟩
      · simp only [runOps, hst, runOps_more (acall_more X (Nat.le_max_right n1 n2)) h3]
      · intro r hr
        refine h5 r ?_
        split
        · exact List.mem_cons_of_mem _ hr
        · exact hr
      · intro r hr hm
        rcases List.mem_cons.1 hr with rfl | hr
        · refine .inl (h5 _ ?_)
          simp only at hm
          rw [if_pos (by simpa using hm), if_pos hw]
          exact List.mem_cons_self
        · exact h6 r hr hm
    · obtain ⟨n2, e', s', full, lg', h3, h4, h5, h6⟩ := opsK_sound h
      have hst : stepOp (acall X n2) b o e s = some (e.put o.dst udf, s) := by
        unfold stepOp
        rw [hw]; rfl
      refine ⟨n2, e', s', { i, key := if wanted e o.guard then opKey (ev e) b o.op else none, h := s.heap, h' := s.heap } :: full, lg', ?_, h4, h5, ?_⟩
      · simp only [runOps, hst, h3]
      · intro r hr hm
        rcases List.mem_cons.1 hr with rfl | hr
        · exact .inr ⟨by rw [hw]; rfl, rfl⟩
        · exact h6 r hr hm

theorem stable_full {pairs : List (Nat × Nat)} {full lg : List Log} (h : stable pairs lg) (hh : Holds (maskOf pairs) full lg) : Stable pairs full := by
  have hs : Stable pairs lg := by
    cases pairs with
    | nil => intro p hp; cases hp
    | cons p ps => exact h
  intro p hp r hr hri k hk t ht hti
  have m1 : r.i ∈ maskOf pairs := List.mem_flatMap.2 ⟨p, hp, by simp [hri]⟩
  have m2 : t.i ∈ maskOf pairs := List.mem_flatMap.2 ⟨p, hp, by simp [hti]⟩
  rcases hh r hr m1 with h1 | ⟨h1, _⟩
  · rcases hh t ht m2 with h2 | ⟨_, h2⟩
    · exact hs p hp r h1 hri k hk t h2 hti
    · rw [h2]
  · rw [h1] at hk; cases hk

theorem aw_sound : ∀ {c : ACode} {K : AExit → AEnv → ASt → Prop} {e : AEnv} {s : ASt}, aw X c K e s → Runs X c e s K := by
  intro c
  induction c with
  | skip => intro K e s h; exact ⟨1, .normal, e, s, rfl, h⟩
  | region na pre ops pairs =>
    intro K e s h
    obtain ⟨n, e', s', full, lg, h1, ⟨h2, h3⟩, _, h4⟩ := opsK_sound h
    refine ⟨n + 1, .normal, e', s', ?_, h3⟩
    simp only [arun, runOps_more (acall_succ X n) h1]
    rw [if_pos (stable_full h2 h4)]
  | seq a b iha ihb =>
    intro K e s h
    obtain ⟨n, x, e1, s1, h1, h2⟩ := iha h
    cases x with
    | normal =>
      obtain ⟨m, y, e2, s2, h3, h4⟩ := ihb h2
      refine ⟨max n m + 1, y, e2, s2, ?_, h4⟩
      simp only [arun]
      rw [arun_more (acall_more X (show n ≤ max n m + 1 by omega)) (Nat.le_max_left n m) h1]
      simp only
      exact arun_more (acall_more X (show m ≤ max n m + 1 by omega)) (Nat.le_max_right n m) h3
    | exit id =>
      refine ⟨n + 1, .exit id, e1, s1, ?_, h2⟩
      simp only [arun]
      rw [arun_more (acall_succ X n) (Nat.le_refl n) h1]
    | ret =>
      refine ⟨n + 1, .ret, e1, s1, ?_, h2⟩
      simp only [arun]
      rw [arun_more (acall_succ X n) (Nat.le_refl n) h1]
  | cond x a b iha ihb =>
    intro K e s h
    obtain ⟨t, h1, h2, h3⟩ := condV_elim h
    cases t with
    | true =>
      obtain ⟨n, x', e1, s1, h4, h5⟩ := iha (h2 rfl)
      refine ⟨n + 1, x', e1, s1, ?_, h5⟩
      simp only [arun, h1, if_true]
      exact arun_more (acall_succ X n) (Nat.le_refl n) h4
    | false =>
      obtain ⟨n, x', e1, s1, h4, h5⟩ := ihb (h3 rfl)
      refine ⟨n + 1, x', e1, s1, ?_, h5⟩
      simp only [arun, h1, Bool.false_eq_true, if_false]
      exact arun_more (acall_succ X n) (Nat.le_refl n) h4
  | block id b ih =>
    intro K e s h
    obtain ⟨n, x, e1, s1, h1, h2⟩ := ih h
    cases x with
    | normal =>
      refine ⟨n + 1, .normal, e1, s1, ?_, h2⟩
      simp only [arun]
      rw [arun_more (acall_succ X n) (Nat.le_refl n) h1]
    | exit id' =>
      simp only [blockK] at h2
      by_cases he : id' = id
      · rw [if_pos he] at h2
        refine ⟨n + 1, .normal, e1, s1, ?_, h2⟩
        simp only [arun]
        rw [arun_more (acall_succ X n) (Nat.le_refl n) h1]
        simp only [he, if_true]
      · rw [if_neg he] at h2
        refine ⟨n + 1, .exit id', e1, s1, ?_, h2⟩
        simp only [arun]
        rw [arun_more (acall_succ X n) (Nat.le_refl n) h1]
        simp only [he, if_false]
    | ret =>
      refine ⟨n + 1, .ret, e1, s1, ?_, h2⟩
      simp only [arun]
      rw [arun_more (acall_succ X n) (Nat.le_refl n) h1]
  | loop b ih => intro K e s h; exact h
  | exit id => intro K e s h; exact ⟨1, .exit id, e, s, rfl, h⟩
  | scope b ih =>
    intro K e s h
    obtain ⟨n, x, e1, s1, h1, h2⟩ := ih h
    refine ⟨n + 1, x, e1, s1, ?_, h2⟩
    simp only [arun]
    exact arun_more (acall_succ X n) (Nat.le_refl n) h1
  | ret => intro K e s h; exact ⟨1, .ret, e, s, rfl, h⟩

/-- A loop is its first round, and the loop again. -/
theorem loop_step {b : ACode} {K : AExit → AEnv → ASt → Prop} {e : AEnv} {s : ASt} (h : aw X b (thenK (fun e s => Runs X (.loop b) e s K) K) e s) : Runs X (.loop b) e s K := by
  obtain ⟨n, x, e1, s1, h1, h2⟩ := aw_sound h
  cases x with
  | normal =>
    obtain ⟨m, y, e2, s2, h3, h4⟩ := h2
    refine ⟨max n m + 1, y, e2, s2, ?_, h4⟩
    simp only [arun]
    rw [arun_more (acall_more X (show n ≤ max n m + 1 by omega)) (Nat.le_max_left n m) h1]
    simp only
    exact arun_more (acall_more X (show m ≤ max n m + 1 by omega)) (Nat.le_max_right n m) h3
  | exit id =>
    refine ⟨n + 1, .exit id, e1, s1, ?_, h2⟩
    simp only [arun]
    rw [arun_more (acall_succ X n) (Nat.le_refl n) h1]
  | ret =>
    refine ⟨n + 1, .ret, e1, s1, ?_, h2⟩
    simp only [arun]
    rw [arun_more (acall_succ X n) (Nat.le_refl n) h1]

theorem thenK_mono {N N' : AEnv → ASt → Prop} {K K' : AExit → AEnv → ASt → Prop} (h : ∀ e s, N e s → N' e s) (hk : ∀ x e s, K x e s → K' x e s) : ∀ x e s, thenK N K x e s → thenK N' K' x e s := by
  intro x e s hx
  cases x <;> first | exact h _ _ hx | exact hk _ _ _ hx

/-- A loop, by a measure. -/
theorem loop_rule {b : ACode} {K : AExit → AEnv → ASt → Prop} (I : Nat → AEnv → ASt → Prop) (h : ∀ n e s, I n e s → aw X b (thenK (fun e' s' => ∃ m, m < n ∧ I m e' s') K) e s) : ∀ n e s, I n e s → Runs X (.loop b) e s K := by
  intro n
  induction n using Nat.strongRecOn with
  | _ n ih =>
    intro e s hI
    obtain ⟨k, x, e1, s1, h1, h2⟩ := aw_sound (h n e s hI)
    cases x with
    | normal =>
      obtain ⟨m, hm, hI'⟩ := h2
      obtain ⟨k2, y, e2, s2, h3, h4⟩ := ih m hm e1 s1 hI'
      refine ⟨max k k2 + 1, y, e2, s2, ?_, h4⟩
      simp only [arun]
      rw [arun_more (acall_more X (show k ≤ max k k2 + 1 by omega)) (Nat.le_max_left k k2) h1]
      simp only
      exact arun_more (acall_more X (show k2 ≤ max k k2 + 1 by omega)) (Nat.le_max_right k k2) h3
    | exit id =>
      refine ⟨k + 1, .exit id, e1, s1, ?_, h2⟩
      simp only [arun]
      rw [arun_more (acall_succ X k) (Nat.le_refl k) h1]
    | ret =>
      refine ⟨k + 1, .ret, e1, s1, ?_, h2⟩
      simp only [arun]
      rw [arun_more (acall_succ X k) (Nat.le_refl k) h1]

/-- How a call that defers nothing ends. -/
def retK (rs : List ARes) (old : List (Nat × List AV)) (K : AV → ASt → Prop) : AExit → AEnv → ASt → Prop
  | .exit _, _, _ => False
  | _, e, s => s.dfr = [] ∧ optK (resV e s rs) fun l => K (oneOf l) { s with dfr := old }

/-- A call of a function that is compiled, and defers nothing. -/
theorem call_code {f : Nat} {l : List AV} {s : ASt} {K : AV → ASt → Prop} (fn : AFun) (hf : X.code f = some fn) (ho : X.orc f = none) (hn : l.length ≤ fn.nt) (h : aw X fn.body (retK fn.results s.dfr K) (argEnv 0 l) { s with dfr := [] }) : Does X f l s K := by
  obtain ⟨n, x, e1, s1, h1, h2⟩ := aw_sound h
  have fin : s1.dfr = [] ∧ optK (resV e1 s1 fn.results) (fun l => K (oneOf l) { s1 with dfr := s.dfr }) → (∀ id, x ≠ .exit id) → Does X f l s K := by
    rintro ⟨hd, h3⟩ hx
    obtain ⟨r, h4, h5⟩ := optK_some h3
    refine ⟨n + 1, oneOf r, { s1 with dfr := s.dfr }, ?_, h5⟩
    simp only [acall, ho, hf, hn, if_true, h1]
    have he : ({ s1 with dfr := [] } : ASt) = s1 := by obtain ⟨a, b, c⟩ := s1; simp only at hd; subst hd; rfl
    cases x with
    | exit id => exact absurd rfl (hx id)
    | normal => simp only [finish, he, hd, runDfr, h4]
    | ret => simp only [finish, he, hd, runDfr, h4]
  cases x with
  | exit id => exact h2.elim
  | normal => exact fin h2 (by simp)
  | ret => exact fin h2 (by simp)

theorem call_orc {f : Nat} {l : List AV} {s : ASt} {K : AV → ASt → Prop} {g : List AV → ASt → Option (AV × ASt)} (ho : X.orc f = some g) (h : optK (g l s) fun r => K r.1 r.2) : Does X f l s K := by
  obtain ⟨⟨v, s'⟩, h1, h2⟩ := optK_some h
  refine ⟨1, v, s', ?_, h2⟩
  simp only [acall, ho]
  exact h1

end
end Go.Proofs.YtggdpckdlcngpaaDoor.Abs
