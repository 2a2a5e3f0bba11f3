/- An operation that leaves the state alone: what the model does is what the abstract machine says. -/
import Derived.Test.YtggdpckdlcngpaaDoorAbs5
set_option linter.unusedVariables false
set_option linter.unusedSimpArgs false
namespace Go.Proofs.YtggdpckdlcngpaaDoor.Abs
open Go.RowKit

section
variable {P : Program} {B : Nat} {w0 : World} {G : Gh} {s : ASt} {w : World}

/-- What an operation comes to: a value into its slot, a world, deferred calls. -/
def OpOK (P : Program) (B : Nat) (w0 : World) (G : Gh) (s : ASt) (w : World) (o : Oper) (a : Act) (own : Option Nat) (v : AV) (s' : ASt) : Prop :=
  ∃ cv w' G' ds, (∀ next Q, next (({ a with defers := ds } : Act).put o.dst cv) w' → o.upon P a next Q ((execOp a.eval o).run P w)) ∧ VR G' v cv ∧ G.Le G' ∧ Sim B w0 G' s' w' ∧ DfrR G' s'.dfr ds ∧ G.Keep s.ctr own G'

theorem OpOK.val {o : Oper} {a : Act} {own : Option Nat} {v : AV} (h : Sim B w0 G s w) (hd : DfrR G s.dfr a.defers) {cv : Value} (hr : (execOp a.eval o).run P w = .ok (.value cv) w) (hv : VR G v cv) : OpOK P B w0 G s w o a own v s :=
  ⟨cv, w, G, a.defers, fun next Q hn => by rw [hr]; exact hn, hv, .refl G, h, hd, .refl G _ _⟩

/-- Numbers are added as they stand. -/
theorem add_add (a : Addr) (i j : Nat) : (a.add i).add j = a.add (i + j) := by
  unfold Addr.add
  by_cases h1 : i = 0 <;> by_cases h2 : j = 0 <;> simp [h1, h2, Nat.add_assoc]

/-- Cells that are read through an address. -/
theorem ld_sound (h : Sim B w0 G s w) {t : TypeId} {g : Bool} {sz : Nat} (hg : aggT P t = some g) (hs : sizeT P t = some sz) {x v : AV} (hv : ldV g sz s.heap x = some v) {c : Value} (hx : VR G x c) :
    ∃ ad cv, c = .pointer (some ad) ∧ (loadVar t ad).run P w = .ok cv w ∧ VR G v cv := by
  cases x <;> simp [ldV] at hv
  · rename_i id off
    cases hx with
    | ptr hb =>
      rename_i b
      obtain ⟨_, _, _, o, x, ho, hx, hr⟩ := h.obj id b hb
      rw [ho] at hv
      cases hr with
      | cells h1 h2 =>
        rename_i l cs ty
        simp only [ldObj] at hv
        obtain ⟨cv, h3, h4⟩ := r_loadVar (w := w) hg hs (ad := ⟨b, off, none⟩) hv (h1.drop off) (fun x hx => h2 x (List.mem_of_mem_drop hx)) (fun j c hj => by
          rw [add_at]
          rw [List.getElem?_drop] at hj
          simp only [World.cell?, hx]
          simpa using hj)
        exact ⟨_, cv, rfl, h3, h4⟩
      | map h1 => simp [ldObj] at hv
  · rename_i cells
    cases hx with
    | eref cv h1 h2 h3 =>
      rename_i ad
      obtain ⟨cv', h4, h5⟩ := r_loadVar (w := w) hg hs (ad := ad) hv (cs := (List.range cells.length).map cv) ⟨by simp, fun j x y hx hy => by
          have hj : j < cells.length := by
            rcases Nat.lt_or_ge j cells.length with h' | h'
            · exact h'
            · rw [List.getElem?_eq_none h'] at hx; cases hx
          simp [List.getElem?_map, List.getElem?_range hj] at hy
          subst hy
          exact h2 j x hx⟩ h3 (fun j c hj => by
          have hj' : j < cells.length := by
            rcases Nat.lt_or_ge j cells.length with h' | h'
            · exact h'
            · rw [List.getElem?_eq_none (by simpa using h')] at hj; cases hj
          simp [List.getElem?_map, List.getElem?_range hj'] at hj
          subst hj
          exact h.comm _ _ (h1 j hj'))
      exact ⟨ad, cv', rfl, h4, h5⟩

theorem rowParts_sound {e : AEnv} {a : Act} (hop : OpdR G e a) {sz : Nat} : ∀ (xs : List (Nat × Operand)) (i : Nat) (ps : List AOpd) (es : List AV), rowParts xs i = some ps → partsV (ev e) sz ps = some es →
    (∀ (j k : Nat) (x : Operand), xs[j]? = some (k, x) → k = i + j) ∧ es.length = xs.length ∧ (∀ (j k : Nat) (x : Operand) (z : AV), xs[j]? = some (k, x) → es[j]? = some z → VR G z (a.eval x)) ∧
    ∀ z ∈ es, z.okc = true ∧ z.cells.length = sz
  | [], i, ps, es, h, hp => by
    simp only [rowParts] at h; injection h with h; subst h
    simp only [partsV] at hp; injection hp with hp; subst hp
    simp
  | (k, x) :: xs, i, ps, es, h, hp => by
    simp only [rowParts] at h
    split at h
    · rename_i e
      subst e
      split at h
      · rename_i y r hy hr
        injection h with h; subst h
        simp only [partsV] at hp
        split at hp
        · rename_i hc
          cases hq : partsV (ev e) sz r with
          | none => rw [hq] at hp; cases hp
          | some q =>
            rw [hq] at hp; injection hp with hp; subst hp
            obtain ⟨h1, h2, h3, h4⟩ := rowParts_sound hop xs (k + 1) r q hr hq
            refine ⟨fun j k' x' hj => ?_, by simp [h2], fun j k' x' z hj hz => ?_, fun z hz => ?_⟩
            · cases j with
              | zero => simp at hj; rw [hj.1]; rfl
              | succ j => have := h1 j k' x' (by simpa using hj); omega
            · cases j with
              | zero => simp at hj hz; rw [← hz, ← hj.2]; exact hop.opd hy
              | succ j => exact h3 j k' x' z (by simpa using hj) (by simpa using hz)
            · cases hz with
              | head => exact hc
              | tail _ hz => exact h4 z hz
        · cases hp
      · cases h
    · cases h

/-- rows of one size, one behind the other -/
theorem flat_get {α : Type} (f : α → List Value) (sz : Nat) : ∀ (l : List α), (∀ x ∈ l, (f x).length = sz) → (l.flatMap f).length = l.length * sz ∧ ∀ i x j, l[i]? = some x → j < sz → (l.flatMap f)[i * sz + j]? = (f x)[j]?
  | [], _ => ⟨by simp, by simp⟩
  | y :: l, h => by
    obtain ⟨h1, h2⟩ := flat_get f sz l (fun x hx => h x (List.mem_cons_of_mem _ hx))
    have hy := h y (List.mem_cons_self ..)
    refine ⟨by rw [List.flatMap_cons, List.length_append, hy, h1, List.length_cons, Nat.succ_mul]; omega, fun i x j hi hj => ?_⟩
    rw [List.flatMap_cons]
    cases i with
    | zero =>
      simp at hi; subst hi
      rw [Nat.zero_mul, Nat.zero_add, List.getElem?_append_left (by omega)]
    | succ i =>
      rw [List.getElem?_append_right (by rw [hy, Nat.succ_mul]; omega), hy]
      rw [show (i + 1) * sz + j - sz = i * sz + j from by rw [Nat.succ_mul]; omega]
      exact h2 i x j (by simpa using hi) hj

theorem fill_row {P : Program} (sz : Nat) (hz : sz ≠ 0) : ∀ (vs : List Value) (i : Nat) (cs : Array Value), (∀ v ∈ vs, v.cells.size = sz) → (i + vs.length) * sz ≤ cs.size →
    Instr.fill (fun i => some (i * sz, sz)) cs ((vs.zipIdx i).map fun p => (p.2, p.1)) = some (putCells cs (i * sz) (vs.flatMap fun v => v.cells.toList))
  | [], i, cs, _, _ => rfl
  | v :: vs, i, cs, h, hs => by
    have hv := h v (List.mem_cons_self ..)
    simp only [List.length_cons] at hs
    have hs' : i * sz + sz ≤ cs.size := by rw [← Nat.succ_mul]; exact Nat.le_trans (Nat.mul_le_mul_right _ (by omega)) hs
    rw [List.zipIdx_cons, List.map_cons]
    simp only [Instr.fill]
    rw [if_neg (by simp only [Bool.or_eq_true, decide_eq_true_eq]; omega)]
    have e1 : v.cells.zipIdx.foldl (fun cs (p : Value × Nat) => cs.setIfInBounds (i * sz + p.2) p.1) cs = putCells cs (i * sz) v.cells.toList := by
      have h0 := fold_putCells (i * sz) v.cells.toList 0 cs
      rw [Nat.add_zero] at h0
      rw [← h0, ← Array.foldl_toList]
      simp
    have e2 : ∀ (a b : List Value) (off : Nat) (cs : Array Value), putCells (putCells cs off a) (off + a.length) b = putCells cs off (a ++ b) := by
      intro a
      induction a with
      | nil => intro b off cs; rfl
      | cons x a ih => intro b off cs; simp only [putCells, List.length_cons, List.cons_append]; rw [show off + (a.length + 1) = off + 1 + a.length from by omega]; exact ih b (off + 1) _
    have ih := fill_row (P := P) sz hz vs (i + 1) (putCells cs (i * sz) v.cells.toList) (fun u hu => h u (List.mem_cons_of_mem _ hu)) (by rw [putCells_size]; rw [show i + 1 + vs.length = i + (vs.length + 1) from by omega]; exact hs)
    have e3 : (fun cs (p : Value × Nat) => match p with | (c, j) => cs.setIfInBounds (i * sz + j) c) = fun (cs : Array Value) (p : Value × Nat) => cs.setIfInBounds (i * sz + p.2) p.1 := by funext cs p; rfl
    show Instr.fill _ (v.cells.zipIdx.foldl (fun cs (p : Value × Nat) => cs.setIfInBounds (i * sz + p.2) p.1) cs) _ = _
    rw [e1, ih, List.flatMap_cons]
    congr 1
    have h5 : (i + 1) * sz = i * sz + v.cells.toList.length := by rw [Nat.succ_mul, Array.length_toList, hv]
    rw [h5, e2]

/-- A row that is written out. -/
theorem buildSlice_sound (h : Sim B w0 G s w) {e : AEnv} {a : Act} (hop : OpdR G e a) {t el : TypeId} {len sz : Nat} {z : Value} {parts : Array (Nat × Operand)} (hd : P.underlying t = some (.slice el)) (hs : sizeT P el = some sz)
    (hz : zeroVal P el = some z) (hlen : parts.size = len) (hmax : len * sz ≤ 16777216) (hsz : sz ≠ 0) (hzs : z.cells.size = sz) {ps : List AOpd} (hp : rowParts parts.toList 0 = some ps) {es : List AV} (he : partsV (ev e) sz ps = some es) :
    ∃ cv w' G', (Instr.buildSlice t len (parts.map fun (i, x) => (i, a.eval x))).run P w = .ok cv w' ∧ VR G' (.slice .full es) cv ∧ G.Le G' ∧ Sim B w0 G' s w' ∧ G'.ρ = G.ρ ∧ G'.I = G.I := by
  obtain ⟨h1, h2, h3, h4⟩ := rowParts_sound hop parts.toList 0 ps es hp he
  have hpl : parts.toList.length = len := by simpa using hlen
  rw [hpl] at h2
  let vs : List Value := parts.toList.map fun q => a.eval q.2
  have hvl : vs.length = len := by simp [vs, hlen]
  have hvs : ∀ v ∈ vs, v.cells.size = sz := by
    intro v hv
    obtain ⟨j, hj⟩ := List.getElem?_of_mem hv
    simp only [vs, List.getElem?_map] at hj
    cases hq : parts.toList[j]? with
    | none => rw [hq] at hj; cases hj
    | some q =>
      rw [hq] at hj; injection hj with hj; subst hj
      have hjl : j < es.length := by
        have : j < parts.toList.length := by
          rcases Nat.lt_or_ge j parts.toList.length with h' | h'
          · exact h'
          · rw [List.getElem?_eq_none h'] at hq; cases hq
        omega
      have hv := h3 j q.1 q.2 es[j] hq (List.getElem?_eq_getElem hjl)
      have := (h4 es[j] (List.getElem_mem hjl)).2
      have h6 := hv.cells_.1
      rw [Array.length_toList] at h6
      show (a.eval q.2).cells.size = sz
      omega
  let zero : Array Value := if len * sz = 0 then #[] else z.cells
  let base : Array Value := (Array.range (len * sz)).map (zero[· % zero.size]!)
  have hbase : base.size = len * sz := by simp [base]
  have hpe : (parts.map fun (q : Nat × Operand) => (q.1, a.eval q.2)).toList = (vs.zipIdx 0).map fun p => (p.2, p.1) := by
    apply List.ext_getElem?
    intro j
    simp only [Array.toList_map, List.getElem?_map, vs, List.getElem?_zipIdx]
    cases hq : parts.toList[j]? with
    | none => simp
    | some q =>
      have := h1 j q.1 q.2 hq
      simp [this]
  have hfill := fill_row (P := P) sz hsz vs 0 base hvs (by rw [hbase, Nat.zero_add, hvl]; exact Nat.le_refl _)
  rw [Nat.zero_mul] at hfill
  obtain ⟨hfl, hfg⟩ := flat_get (fun v : Value => v.cells.toList) sz vs (fun v hv => by rw [Array.length_toList]; exact hvs v hv)
  obtain ⟨G', hle, hsim, hC, hρ, hI⟩ := h.commit (putCells base 0 (vs.flatMap fun v => v.cells.toList)) el (0, 0)
  have hcell : ∀ i v j, vs[i]? = some v → j < sz → (putCells base 0 (vs.flatMap fun v => v.cells.toList))[i * sz + j]? = v.cells.toList[j]? := by
    intro i v j hi hj
    have hil : i < vs.length := by
      rcases Nat.lt_or_ge i vs.length with h' | h'
      · exact h'
      · rw [List.getElem?_eq_none h'] at hi; cases hi
    have hlt : i * sz + j < vs.length * sz := by
      have : (i + 1) * sz ≤ vs.length * sz := Nat.mul_le_mul_right _ hil
      rw [Nat.succ_mul] at this; omega
    rw [putCells_get _ _ _ _ (by rw [hfl, hbase, hvl]; omega), if_pos ⟨Nat.zero_le _, by rw [hfl]; omega⟩]
    rw [Nat.sub_zero]
    exact hfg i v j hi hj
  refine ⟨.slice (some ⟨w.heap.size, 0, none⟩) len len, _, G', ?_, ?_, hle, hsim, hρ, hI⟩
  · simp only [Instr.buildSlice, Sem.run_bind, r_und hd, r_size hs, Result.andThen_ok, Sem.run_ite]
    rw [if_neg (by omega)]
    have hpe' : (Array.map (fun (x : Nat × Operand) => (x.1, a.eval x.2)) parts).toList = (vs.zipIdx 0).map fun p => (p.2, p.1) := hpe
    have hfill' : Instr.fill (fun i => some (i * sz, sz)) (Array.map (fun x => zero[x % zero.size]!) (Array.range (len * sz))) (Array.map (fun (x : Nat × Operand) => (x.1, a.eval x.2)) parts).toList = some (putCells base 0 (vs.flatMap fun v => v.cells.toList)) := by
      rw [hpe']; exact hfill
    by_cases hq : len * sz = 0
    · have hz0 : zero = #[] := if_pos hq
      rw [hz0] at hfill'
      simp only [if_pos hq, Sem.run_pure, Result.andThen_ok]
      rw [hfill']
      simp [newRow]
    · have hz0 : zero = z.cells := if_neg hq
      rw [hz0] at hfill'
      simp only [if_neg hq, r_zero hz, Sem.run_pure, Result.andThen_ok]
      rw [hfill']
      simp [newRow]
  · refine .slice sz (fun j => (putCells base 0 (vs.flatMap fun v => v.cells.toList)).getD j undef) h2.symm rfl (fun z hz' => ?_) (fun _ => rfl) (fun ad ha j hj => ?_) (fun i z j x hi hj => ?_)
    · obtain ⟨j, hj⟩ := List.getElem?_of_mem hz'
      have hjl : j < es.length := by
        rcases Nat.lt_or_ge j es.length with h' | h'
        · exact h'
        · rw [List.getElem?_eq_none h'] at hj; cases hj
      obtain ⟨q, hq⟩ : ∃ q, parts.toList[j]? = some q := ⟨parts.toList[j]'(by omega), List.getElem?_eq_getElem _⟩
      exact ⟨(h4 z hz').1, (h4 z hz').2, (h3 j q.1 q.2 z hq hj).cells_ok (h4 z hz').1⟩
    · injection ha with ha; subst ha
      rw [add_at, Nat.zero_add]
      refine hC j _ ?_
      have : j < (putCells base 0 (vs.flatMap fun v => v.cells.toList)).size := by rw [putCells_size, hbase, ← h2]; exact hj
      rw [Array.getElem?_eq_getElem this]
      simp [this]
    · have hil : i < es.length := by
        rcases Nat.lt_or_ge i es.length with h' | h'
        · exact h'
        · rw [List.getElem?_eq_none h'] at hi; cases hi
      obtain ⟨q, hq⟩ : ∃ q, parts.toList[i]? = some q := ⟨parts.toList[i]'(by omega), List.getElem?_eq_getElem _⟩
      have hv := (h3 i q.1 q.2 z hq hi).mono hle
      obtain ⟨y, hy, vy⟩ := hv.cells_.get hj
      have hjs : j < sz := by
        have := (h4 z (List.mem_of_getElem? hi)).2
        rcases Nat.lt_or_ge j z.cells.length with h' | h'
        · omega
        · rw [List.getElem?_eq_none h'] at hj; cases hj
      have := hcell i (a.eval q.2) j (by simp [vs, hq]) hjs
      rw [hy] at this
      have e : (putCells base 0 (vs.flatMap fun v => v.cells.toList)).getD (i * sz + j) undef = y := by
        rw [Array.getD_eq_getD_getElem?, this]; rfl
      rw [e]; exact vy

end
end Go.Proofs.YtggdpckdlcngpaaDoor.Abs
