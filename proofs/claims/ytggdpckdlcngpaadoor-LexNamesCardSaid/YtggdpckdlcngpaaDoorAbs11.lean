/- Regions: in the order of the text, and in any order. -/
import Derived.Test.YtggdpckdlcngpaaDoorAbs10
set_option linter.unusedVariables false
set_option linter.unusedSimpArgs false
namespace Go.Proofs.YtggdpckdlcngpaaDoor.Abs
open Go.RowKit

/-! ### What an operation depends on -/

theorem map_congr' {ρ ρ' : AOpd → AV} {l : List AOpd} (h : ∀ x ∈ l, ρ x = ρ' x) : l.map ρ = l.map ρ' := List.map_congr_left h

theorem fillV_congr {ρ ρ' : AOpd → AV} : ∀ (parts : List (Nat × Nat × AOpd)) (l : List AV), (∀ x ∈ parts.map (·.2.2), ρ x = ρ' x) → fillV ρ l parts = fillV ρ' l parts
  | [], _, _ => rfl
  | (off, sz, x) :: ps, l, h => by
    have hx : ρ x = ρ' x := h x (by simp)
    simp only [fillV, hx]
    split
    · exact fillV_congr ps _ fun y hy => h y (by simp only [List.map_cons, List.mem_cons]; exact .inr hy)
    · rfl

theorem partsV_congr {ρ ρ' : AOpd → AV} {sz : Nat} : ∀ (l : List AOpd), (∀ x ∈ l, ρ x = ρ' x) → partsV ρ sz l = partsV ρ' sz l
  | [], _ => rfl
  | x :: l, h => by
    have hx : ρ x = ρ' x := h x (by simp)
    simp only [partsV, hx, partsV_congr l fun y hy => h y (by simp [hy])]

theorem boundsV_congr {ρ ρ' : AOpd → AV} {n m : Nat} {lo hi : Option AOpd} (h1 : ∀ x ∈ lo.toList, ρ x = ρ' x) (h2 : ∀ x ∈ hi.toList, ρ x = ρ' x) : boundsV ρ n m lo hi = boundsV ρ' n m lo hi := by
  unfold boundsV
  cases lo <;> cases hi <;> simp_all

theorem slV_congr {ρ ρ' : AOpd → AV} {sz : Nat} {lo hi : Option AOpd} {v : AV} (h1 : ∀ x ∈ lo.toList, ρ x = ρ' x) (h2 : ∀ x ∈ hi.toList, ρ x = ρ' x) : slV ρ sz lo hi v = slV ρ' sz lo hi v := by
  cases v <;> simp only [slV, boundsV_congr h1 h2]
theorem slStrV_congr {ρ ρ' : AOpd → AV} {lo hi : Option AOpd} {v : AV} (h1 : ∀ x ∈ lo.toList, ρ x = ρ' x) (h2 : ∀ x ∈ hi.toList, ρ x = ρ' x) : slStrV ρ lo hi v = slStrV ρ' lo hi v := by
  cases v <;> simp only [slStrV, boundsV_congr h1 h2]
theorem slArrV_congr {ρ ρ' : AOpd → AV} {n sz : Nat} {lo hi : Option AOpd} {v : AV} (h1 : ∀ x ∈ lo.toList, ρ x = ρ' x) (h2 : ∀ x ∈ hi.toList, ρ x = ρ' x) : slArrV ρ n sz lo hi v = slArrV ρ' n sz lo hi v := by
  cases v <;> simp only [slArrV, boundsV_congr h1 h2]

theorem opKey_congr {ρ ρ' : AOpd → AV} {b : Nat} {x : AOp} (h : ∀ y ∈ x.opds, ρ y = ρ' y) : opKey ρ b x = opKey ρ' b x := by
  cases x <;> simp only [opKey, AOp.opds, List.mem_cons, List.mem_nil_iff, or_false, forall_eq_or_imp, forall_eq] at h ⊢
  all_goals first | rfl | (rw [h]; done) | (rw [h.1]; done)

theorem ldV_congr {agg : Bool} {sz : Nat} {h h' : Nat → Option AObj} {v : AV} (hk : ∀ k, ldKey v = some k → h k = h' k) : ldV agg sz h v = ldV agg sz h' v := by
  cases v <;> simp only [ldV]
  rw [hk _ rfl]
theorem strOfV_congr {h h' : Nat → Option AObj} {v : AV} (hk : ∀ k, strKey v = some k → h k = h' k) : strOfV h v = strOfV h' v := by
  cases v <;> simp only [strOfV]
  rw [hk _ rfl]
theorem lookM_congr {t : KeyT} {z : AV} {ok : Bool} {k : AV} {h h' : Nat → Option AObj} {v : AV} (hk : ∀ k, mapKey v = some k → h k = h' k) : lookM t z ok h k v = lookM t z ok h' k v := by
  cases v <;> simp only [lookM]
  rw [hk _ rfl]
theorem lenMapV_congr {h h' : Nat → Option AObj} {v : AV} (hk : ∀ k, mapKey v = some k → h k = h' k) : lenMapV h v = lenMapV h' v := by
  cases v <;> simp only [lenMapV]
  rw [hk _ rfl]

theorem opV_congr {ρ ρ' : AOpd → AV} {b : Nat} {h h' : Nat → Option AObj} {x : AOp} (ho : ∀ y ∈ x.opds, ρ y = ρ' y) (hk : ∀ k, opKey ρ b x = some k → h k = h' k) : opV ρ b h x = opV ρ' b h' x := by
  cases x <;> simp only [opV, opKey, AOp.opds, List.mem_cons, List.mem_nil_iff, or_false, forall_eq_or_imp, forall_eq, Option.some.injEq, forall_eq'] at ho hk ⊢
  case build => rw [fillV_congr _ _ ho]
  case buildSlice => rw [partsV_congr _ ho]
  case mkfunc =>
    rw [map_congr' fun y hy => ho y (List.mem_append_left _ hy), map_congr' fun y hy => ho y (List.mem_append_right _ hy)]
  case load => rw [← ho, ldV_congr hk]
  case convBytes => rw [← ho, strOfV_congr hk]
  case lookup => rw [← ho.1, ← ho.2, lookM_congr hk]
  case lenMap => rw [← ho, lenMapV_congr hk]
  case sliceStr => rw [ho.1, slStrV_congr (fun y hy => ho.2 y (List.mem_append_left _ hy)) fun y hy => ho.2 y (List.mem_append_right _ hy)]
  case sliceSl => rw [ho.1, slV_congr (fun y hy => ho.2 y (List.mem_append_left _ hy)) fun y hy => ho.2 y (List.mem_append_right _ hy)]
  case sliceArr => rw [ho.1, slArrV_congr (fun y hy => ho.2 y (List.mem_append_left _ hy)) fun y hy => ho.2 y (List.mem_append_right _ hy)]
  case alloc => rw [hk]
  case pick => rw [ho.1, ho.2.1, ho.2.2]
  all_goals first | rfl | (rw [ho]; done) | (rw [ho.1, ho.2]; done)

theorem opW_congr {ρ ρ' : AOpd → AV} {b : Nat} {s : ASt} {x : AOp} (ho : ∀ y ∈ x.opds, ρ y = ρ' y) : opW ρ b s x = opW ρ' b s x := by
  cases x <;> simp only [opW, AOp.opds, List.mem_cons, List.mem_nil_iff, or_false, forall_eq_or_imp, forall_eq] at ho ⊢
  case mapUpd => rw [ho.1, ho.2.1, ho.2.2]
  case entrySet => rw [ho.1, ho.2.1, ho.2.2]
  case defer => rw [ho.1, map_congr' ho.2]
  all_goals first | rfl | (rw [ho]; done) | (rw [ho.1, ho.2]; done)

theorem callV_congr {ρ ρ' : AOpd → AV} {f : AOpd} {args : List AOpd} (ho : ∀ y ∈ (AOp.call f args).opds, ρ y = ρ' y) : callV ρ f args = callV ρ' f args := by
  simp only [AOp.opds, List.mem_cons, forall_eq_or_imp] at ho
  unfold callV
  rw [ho.1, map_congr' ho.2]

theorem opKey_looks {ρ : AOpd → AV} {b k : Nat} {x : AOp} (h : opKey ρ b x = some k) : x.looks = true ∧ x.kd = .v := by
  cases x <;> first | (exact ⟨rfl, rfl⟩) | cases h

theorem turns_iff (x : AOp) : x.turns = false ↔ x.kd = .v := by
  cases x <;> simp [AOp.turns, AOp.kd]

theorem updM_ctr {t : KeyT} {s s' : ASt} {k v m : AV} (h : updM t s k v m = some s') : s'.ctr = s.ctr := by
  cases m <;> simp only [updM] at h <;> try (cases h; done)
  split at h
  · simp only [Option.map_eq_some_iff] at h
    obtain ⟨_, _, rfl⟩ := h; rfl
  · cases h

theorem opW_ctr {ρ : AOpd → AV} {b : Nat} {s s' : ASt} {x : AOp} {v : AV} (h : opW ρ b s x = some (v, s')) : s'.ctr = s.ctr := by
  cases x <;> simp only [opW] at h <;> try (cases h; done)
  case box =>
    split at h
    · injection h with h; injection h with h1 h2; subst h2; rfl
    · cases h
  case mkmap => injection h with h; injection h with h1 h2; subst h2; rfl
  case store =>
    simp only [Option.map_eq_some_iff] at h
    obtain ⟨s2, h, h2⟩ := h
    injection h2 with h1 h2; subst h2
    unfold stV at h
    split at h
    · split at h
      · split at h
        · injection h with h; subst h; rfl
        · cases h
      · cases h
    · cases h
  case mapUpd =>
    unfold keyed at h
    split at h
    · simp only [Option.map_eq_some_iff] at h
      obtain ⟨s2, h, h2⟩ := h
      injection h2 with h1 h2; subst h2
      exact updM_ctr h
    · cases h
  case mapTouch =>
    unfold keyed at h
    split at h
    · unfold touchM at h
      split at h
      · split at h
        · simp only [Option.map_eq_some_iff] at h
          obtain ⟨_, _, h2⟩ := h
          injection h2 with h1 h2; subst h2; rfl
        · cases h
      · cases h
    · cases h
  case entrySet =>
    simp only [Option.map_eq_some_iff] at h
    obtain ⟨s2, h, h2⟩ := h
    injection h2 with h1 h2; subst h2
    unfold stampM at h
    split at h
    · split at h
      · simp only [Option.map_eq_some_iff] at h
        obtain ⟨_, _, h2⟩ := h
        subst h2; rfl
      · cases h
    · cases h
  case append =>
    split at h
    · unfold appV at h
      repeat' (first
        | (cases h; done)
        | (injection h with h; injection h with h1 h2; subst h2; rfl)
        | split at h)
    · cases h
  case defer =>
    split at h
    · injection h with h; injection h with h1 h2; subst h2; rfl
    · cases h

/-! ### Steps -/

def Agree (e e' : AEnv) (l : List Nat) : Prop := ∀ t ∈ l, e.get t = e'.get t

theorem Agree.opds {e e' : AEnv} {o : AOper} (h : Agree e e' o.reads) : ∀ y ∈ o.op.opds, ev e y = ev e' y := by
  intro y hy
  cases y with
  | val v => rfl
  | tmp t => exact h t (List.mem_append_left _ (List.mem_filterMap.2 ⟨.tmp t, hy, rfl⟩))

theorem Agree.wanted {e e' : AEnv} {o : AOper} (h : Agree e e' o.reads) : wanted e o.guard = wanted e' o.guard := by
  cases hg : o.guard with
  | none => rfl
  | some p =>
    obtain ⟨t, b⟩ := p
    have := h t (by unfold AOper.reads; rw [hg]; simp)
    simp only [Abs.wanted, this]

/-- What a step gives, but for the slots that it does not turn. -/
noncomputable def stepV (call : Caller) (b : Nat) (o : AOper) (e : AEnv) (s : ASt) : Option (AV × ASt) :=
  if wanted e o.guard then runOp call b o.op e s else some (udf, s)

theorem stepOp_eq (call : Caller) (b : Nat) (o : AOper) (e : AEnv) (s : ASt) : stepOp call b o e s = (stepV call b o e s).map fun r => (e.put o.dst r.1, r.2) := by
  unfold stepOp stepV
  split <;> rfl

def stepKey (b : Nat) (o : AOper) (e : AEnv) : Option Nat := if wanted e o.guard then opKey (ev e) b o.op else none

/-- A step that only looks, at another state. -/
theorem stepV_v {call : Caller} {b : Nat} {o : AOper} {e e' : AEnv} {s s' : ASt} {r : AV × ASt} (hv : o.op.turns = false) (he : Agree e e' o.reads) (hk : ∀ k, stepKey b o e = some k → s.heap k = s'.heap k)
    (h : stepV call b o e s = some r) : stepV call b o e' s' = some (r.1, s') ∧ r.2 = s := by
  unfold stepV at *
  rw [← he.wanted]
  unfold stepKey at hk
  split at h
  · rename_i hw
    rw [if_pos hw] at hk
    rw [if_pos hw]
    unfold runOp at *
    rw [(turns_iff _).1 hv] at h ⊢
    simp only at h ⊢
    rw [← opV_congr he.opds hk]
    simp only [Option.map_eq_some_iff] at h ⊢
    obtain ⟨v, hv, rfl⟩ := h
    exact ⟨⟨v, hv, rfl⟩, rfl⟩
  · rename_i hw
    rw [if_neg hw]
    injection h with h; subst h
    exact ⟨rfl, rfl⟩

theorem stepV_congr {call : Caller} {b : Nat} {o : AOper} {e e' : AEnv} {s : ASt} (he : Agree e e' o.reads) : stepV call b o e s = stepV call b o e' s := by
  unfold stepV
  rw [← he.wanted]
  split
  · unfold runOp
    split
    · rw [opV_congr he.opds fun _ _ => rfl]
    · rw [opW_congr he.opds]
    · have := he.opds
      split
      · rename_i f args heq
        rw [heq] at this
        rw [callV_congr this]
      · rfl
  · rfl

theorem stepV_turnless {call : Caller} {b : Nat} {o : AOper} {e : AEnv} {s : ASt} {r : AV × ASt} (hv : o.op.turns = false) (h : stepV call b o e s = some r) : r.2 = s :=
  (stepV_v (e' := e) (s' := s) hv (fun _ _ => rfl) (fun _ _ => rfl) h).2

theorem stepV_ctr {P : Program} {B : Nat} {w0 : World} {call : Caller} (hcall : CallOK P B w0 call) {b : Nat} {o : AOper} {e : AEnv} {s : ASt} {r : AV × ASt} (h : stepV call b o e s = some r) : s.ctr ≤ r.2.ctr := by
  unfold stepV at h
  split at h
  · unfold runOp at h
    split at h
    · simp only [Option.map_eq_some_iff] at h
      obtain ⟨_, _, rfl⟩ := h; exact Nat.le_refl _
    · obtain ⟨v, s'⟩ := r
      exact Nat.le_of_eq (opW_ctr h).symm
    · split at h
      · split at h
        · rename_i g l _
          obtain ⟨v, s'⟩ := r
          exact (hcall g l s v s' h).2.2.1
        · cases h
      · cases h
  · injection h with h; subst h; exact Nat.le_refl _

end Go.Proofs.YtggdpckdlcngpaaDoor.Abs
