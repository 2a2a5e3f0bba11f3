/- What an operation that leaves the state alone does, in the model. -/
import Derived.Test.YtggdpckdlcngpaaDoorAbs2
set_option linter.unusedVariables false
set_option linter.unusedSimpArgs false
namespace Go.Proofs.YtggdpckdlcngpaaDoor.Abs
open Go.RowKit

section
variable {P : Program} {w : World}

theorem r_und {t : TypeId} {d : TypeDesc} (h : P.underlying t = some d) : (underlying t).run P w = .ok d w := by
  simp [underlying, h]
theorem r_info {t : TypeId} {i : TypeInfo} (h : P.info? t = some i) : (typeInfo t).run P w = .ok i w := by
  simp [typeInfo, h]
theorem r_size {t : TypeId} {n : Nat} (h : sizeT P t = some n) : (sizeOf t).run P w = .ok n w := by
  unfold sizeT at h
  cases hi : P.info? t with
  | none => rw [hi] at h; cases h
  | some i => rw [hi] at h; injection h with h; subst h; simp [sizeOf, r_info hi]
theorem r_bytes {t : TypeId} {n : Nat} (h : bytesT P t = some n) : ∃ i, P.info? t = some i ∧ i.bytes = n := by
  unfold bytesT at h
  cases hi : P.info? t with
  | none => rw [hi] at h; cases h
  | some i => rw [hi] at h; injection h with h; exact ⟨i, rfl, h⟩
theorem r_zero {t : TypeId} {v : Value} (h : zeroVal P t = some v) : (zeroValue t).run P w = .ok v w := by
  unfold zeroVal at h
  cases hi : P.info? t with
  | none => rw [hi] at h; cases h
  | some i => rw [hi] at h; simp only [Option.bind_some] at h; simp [zeroValue, r_info hi, h]
theorem r_agg {t : TypeId} {g : Bool} (h : aggT P t = some g) : (isAgg t).run P w = .ok g w := by
  unfold aggT at h
  cases hi : P.underlying t with
  | none => rw [hi] at h; cases h
  | some d =>
    rw [hi] at h; injection h with h; subst h
    simp only [isAgg, Sem.run_bind, r_und hi, Result.andThen_ok]
    cases d <;> rfl

theorem ofCell_VR {G : Gh} {c : Value} {v : AV} (h : ofCell c = some v) : VR G v c ∧ v.isCell = true := by
  cases c with
  | bool b => simp only [ofCell] at h; injection h with h; subst h; exact ⟨.bool b, rfl⟩
  | int k n => simp only [ofCell] at h; injection h with h; subst h; exact ⟨.int k n, rfl⟩
  | string s =>
    simp only [ofCell] at h; injection h with h; subst h
    refine ⟨?_, rfl⟩
    have : (⟨s.data.toList.toArray⟩ : ByteArray) = s := by simp
    rw [← this]; simpa using VR.str (G := G) s.data.toList
  | pointer a =>
    cases a with
    | none => simp only [ofCell] at h; injection h with h; subst h; exact ⟨.nilp, rfl⟩
    | some a => simp [ofCell] at h
  | slice a n c =>
    cases a with
    | some a => simp [ofCell] at h
    | none =>
      unfold ofCell at h
      split at h <;> try (simp at h; done)
      all_goals first
        | (rename_i heq; injection heq; done)
        | skip
      rename_i heq
      injection heq with _ e1 e2; subst e1; subst e2
      injection h with h; subst h
      exact ⟨.slice 0 (fun _ => undef) rfl rfl (by simp) (by simp) (by simp) (by simp), rfl⟩
  | map r =>
    cases r with
    | none => simp only [ofCell] at h; injection h with h; subst h; exact ⟨.nilmap, rfl⟩
    | some a => simp [ofCell] at h
  | nilFunc => simp only [ofCell] at h; injection h with h; subst h; exact ⟨.nilfunc, rfl⟩
  | func fn a b =>
    unfold ofCell at h
    split at h <;> try (simp at h; done)
    all_goals first
      | (rename_i heq; injection heq; done)
      | skip
    rename_i heq
    injection heq with e1 e2 e3; subst e1; subst e2; subst e3
    injection h with h; subst h
    exact ⟨.func #[] #[] rfl (by simp) rfl (by simp), rfl⟩
  | _ => simp [ofCell] at h

theorem ofCells_VRs {G : Gh} : ∀ {cs : List Value} {l : List AV}, ofCells cs = some l → VRs G l cs ∧ ∀ x ∈ l, x.isCell = true
  | [], l, h => by simp only [ofCells] at h; injection h with h; subst h; exact ⟨VRs.nil G, by simp⟩
  | c :: cs, l, h => by
    simp only [ofCells] at h
    split at h
    · rename_i a r ha hr
      injection h with h; subst h
      obtain ⟨h1, h2⟩ := ofCell_VR (G := G) ha
      obtain ⟨h3, h4⟩ := ofCells_VRs (G := G) hr
      exact ⟨.cons h1 h3, by intro x hx; cases hx with | head => exact h2 | tail _ hx => exact h4 x hx⟩
    · cases h

theorem ofVal_VR {G : Gh} {c : Value} {v : AV} (h : ofVal c = some v) : VR G v c := by
  unfold ofVal at h
  split at h
  · rename_i cs
    cases ho : ofCells cs.toList with
    | none => rw [ho] at h; cases h
    | some l =>
      rw [ho] at h; injection h with h; subst h
      obtain ⟨h1, h2⟩ := ofCells_VRs (G := G) ho
      exact VR.agg' h1 h2
  · rename_i cs
    cases ho : ofCells cs.toList with
    | none => rw [ho] at h; cases h
    | some l =>
      rw [ho] at h; injection h with h; subst h
      exact VR.tuple' (ofCells_VRs (G := G) ho).1
  · exact (ofCell_VR h).1

/-- The operands of an operation, seen by both. -/
def OpdR (G : Gh) (e : AEnv) (a : Act) : Prop := ∀ t, VR G (e.get t) (a.tmps.getD t undef)

theorem OpdR.opd {G : Gh} {e : AEnv} {a : Act} (h : OpdR G e a) {x : Operand} {y : AOpd} (hc : compOpd x = some y) : VR G (ev e y) (a.eval x) := by
  cases x with
  | tmp t => simp only [compOpd] at hc; injection hc with hc; subst hc; exact h t
  | const v =>
    simp only [compOpd] at hc
    cases ho : ofVal v with
    | none => rw [ho] at hc; cases hc
    | some u => rw [ho] at hc; injection hc with hc; subst hc; exact ofVal_VR ho
  | func f => simp only [compOpd] at hc; injection hc with hc; subst hc; exact .func #[] #[] rfl (by simp) rfl (by simp)
  | global g => simp [compOpd] at hc

theorem OpdR.mono {G G' : Gh} (k : G.Le G') {e : AEnv} {a : Act} (h : OpdR G e a) : OpdR G' e a := fun t => (h t).mono k

theorem OpdR.opds {G : Gh} {e : AEnv} {a : Act} (h : OpdR G e a) : ∀ {xs : List Operand} {ys : List AOpd}, compOpds xs = some ys → VRs G (ys.map (ev e)) (xs.map a.eval)
  | [], ys, hc => by simp only [compOpds] at hc; injection hc with hc; subst hc; exact VRs.nil G
  | x :: xs, ys, hc => by
    simp only [compOpds] at hc
    split at hc
    · rename_i b r hb hr
      injection hc with hc; subst hc
      exact .cons (h.opd hb) (h.opds hr)
    · cases hc

/-! ### Cells that are read -/

theorem ldCells_VR {G : Gh} {g : Bool} {sz : Nat} {l : List AV} {v : AV} (h : ldCells g sz l = some v) {cs : List Value} (hr : VRs G l cs) (hc : ∀ x ∈ l, x.isCell = true) :
    (g = true ∧ sz ≤ l.length ∧ VR G v (.agg (cs.take sz).toArray)) ∨ (g = false ∧ ∃ c, cs[0]? = some c ∧ VR G v c) := by
  unfold ldCells at h
  cases g with
  | true =>
    simp only [if_true] at h
    split at h
    · rename_i hs
      injection h with h; subst h
      exact .inl ⟨rfl, hs, VR.agg' (by simpa using hr.take sz) (fun x hx => hc x (List.mem_of_mem_take hx))⟩
    · cases h
  | false =>
    simp only [Bool.false_eq_true, if_false] at h
    rw [List.head?_eq_getElem?] at h
    obtain ⟨c, h1, h2⟩ := hr.get h
    exact .inr ⟨rfl, c, h1, h2⟩

theorem r_loadVar {G : Gh} {t : TypeId} {g : Bool} {sz : Nat} (hg : aggT P t = some g) (hs : sizeT P t = some sz) {ad : Addr} {l : List AV} {v : AV} {cs : List Value}
    (h : ldCells g sz l = some v) (hr : VRs G l cs) (hc : ∀ x ∈ l, x.isCell = true) (hm : ∀ j c, cs[j]? = some c → w.cell? (ad.add j) = some c) :
    ∃ cv, (loadVar t ad).run P w = .ok cv w ∧ VR G v cv := by
  simp only [loadVar, Sem.run_bind, r_agg hg, Result.andThen_ok]
  rcases ldCells_VR h hr hc with ⟨rfl, hsz, hv⟩ | ⟨rfl, c, h0, hv⟩
  · have hl : (cs.take sz).length = sz := by rw [List.length_take, hr.1]; omega
    have := run_loadCells_list (P := P) w ad (cs.take sz) (fun j c hj => by
      rw [List.getElem?_take] at hj
      split at hj
      · exact hm j c hj
      · cases hj)
    rw [hl] at this
    exact ⟨_, by simp [r_size hs, this], hv⟩
  · have := hm 0 c h0
    have e : ad.add 0 = ad := by simp [Addr.add]
    rw [e] at this
    exact ⟨c, by simp [run_load, this], hv⟩

/-! ### New cells, stored cells -/

theorem fold_putCells (off : Nat) : ∀ (vs : List Value) (n : Nat) (cs : Array Value),
    (vs.zipIdx n).foldl (fun cs (p : Value × Nat) => cs.setIfInBounds (off + p.2) p.1) cs = putCells cs (off + n) vs
  | [], n, cs => rfl
  | v :: vs, n, cs => by
    rw [List.zipIdx_cons, List.foldl_cons, fold_putCells off vs (n + 1)]
    rfl

theorem putCells_VRs {G : Gh} {l new : List AV} {cs : Array Value} {vs : List Value} {off : Nat} (hr : VRs G l cs.toList) (hn : VRs G new vs) (hf : off + new.length ≤ l.length) :
    VRs G (overlay l off new) (putCells cs off vs).toList := by
  have hl : cs.size = l.length := by have := hr.1; simpa using this
  refine ⟨?_, fun j x y hx hy => ?_⟩
  · rw [Array.length_toList, putCells_size]
    simp only [overlay, List.length_append, List.length_take, List.length_drop]; omega
  · rw [Array.getElem?_toList, putCells_get _ _ _ _ (by rw [hn.1]; omega), hn.1] at hy
    unfold overlay at hx
    have hlt : (l.take off).length = off := by rw [List.length_take]; omega
    by_cases h1 : j < off
    · rw [if_neg (by omega)] at hy
      rw [List.append_assoc, List.getElem?_append_left (by omega), List.getElem?_take, if_pos h1] at hx
      exact hr.2 j x y hx (by simpa using hy)
    · by_cases h2 : j < off + new.length
      · rw [if_pos ⟨by omega, h2⟩] at hy
        rw [List.append_assoc, List.getElem?_append_right (by omega), hlt, List.getElem?_append_left (by omega)] at hx
        exact hn.2 _ x y hx hy
      · rw [if_neg (by omega)] at hy
        rw [List.getElem?_append_right (by simp only [List.length_append]; omega), List.length_append, hlt, List.getElem?_drop] at hx
        rw [show off + new.length + (j - (off + new.length)) = j from by omega] at hx
        exact hr.2 j x y hx (by simpa using hy)

theorem fill_VR {G : Gh} {e : AEnv} {a : Act} (hop : OpdR G e a) (place : Nat → Option (Nat × Nat)) : ∀ (xs : List (Nat × Operand)) (ps : List (Nat × Nat × AOpd)) (l l' : List AV) (cs : Array Value),
    (ps.length = xs.length ∧ ∀ (j : Nat) (i : Nat) (x : Operand) (off sz : Nat) (y : AOpd), xs[j]? = some (i, x) → ps[j]? = some (off, sz, y) → place i = some (off, sz) ∧ compOpd x = some y) →
    fillV (ev e) l ps = some l' → VRs G l cs.toList → (∀ x ∈ l, x.isCell = true) →
    ∃ cs', Instr.fill place cs (xs.map fun q => (q.1, a.eval q.2)) = some cs' ∧ VRs G l' cs'.toList ∧ ∀ x ∈ l', x.isCell = true
  | [], ps, l, l', cs, hp, h, hr, hc => by
    have : ps = [] := by have := hp.1; simpa using this
    subst this
    simp only [fillV] at h; injection h with h; subst h
    exact ⟨cs, by simp [Instr.fill], hr, hc⟩
  | (i, x) :: xs, [], l, l', cs, hp, h, hr, hc => by have := hp.1; simp at this
  | (i, x) :: xs, (off, sz, y) :: ps, l, l', cs, hp, h, hr, hc => by
    obtain ⟨hpl, hcx⟩ := hp.2 0 i x off sz y rfl rfl
    simp only [fillV] at h
    split at h
    · rename_i hcond
      obtain ⟨hok, hsz, hfit⟩ := hcond
      have hv := hop.opd hcx
      have hcv := hv.cells_
      have hlen : (a.eval x).cells.size = sz := by have := hcv.1; simp only [Array.length_toList] at this; omega
      have hcl : cs.size = l.length := by have := hr.1; simpa using this
      simp only [List.map_cons, Instr.fill, hpl]
      rw [if_neg (by simp only [Bool.or_eq_true, decide_eq_true_eq]; omega)]
      have hr' : VRs G (overlay l off (ev e y).cells) (((a.eval x).cells.zipIdx.foldl (fun cs (p : Value × Nat) => cs.setIfInBounds (off + p.2) p.1) cs)).toList := by
        have e1 : (a.eval x).cells.zipIdx.foldl (fun cs (p : Value × Nat) => cs.setIfInBounds (off + p.2) p.1) cs = putCells cs off (a.eval x).cells.toList := by
          have h0 := fold_putCells off (a.eval x).cells.toList 0 cs
          rw [Nat.add_zero] at h0
          rw [← h0, ← Array.foldl_toList]
          simp
        rw [e1]
        exact putCells_VRs hr hcv (by omega)
      have hc' : ∀ z ∈ overlay l off (ev e y).cells, z.isCell = true := by
        intro z hz
        unfold overlay at hz
        simp only [List.mem_append] at hz
        rcases hz with (hz | hz) | hz
        · exact hc z (List.mem_of_mem_take hz)
        · exact hv.cells_ok hok z hz
        · exact hc z (List.mem_of_mem_drop hz)
      exact fill_VR hop place xs ps _ l' _ ⟨by have := hp.1; simpa using this, fun j i' x' off' sz' y' h1 h2 => hp.2 (j + 1) i' x' off' sz' y' (by simpa using h1) (by simpa using h2)⟩ h hr' hc'
    · cases h
termination_by xs => xs.length

end
end Go.Proofs.YtggdpckdlcngpaaDoor.Abs
