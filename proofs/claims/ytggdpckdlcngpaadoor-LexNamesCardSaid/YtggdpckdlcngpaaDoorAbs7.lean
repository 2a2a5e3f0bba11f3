/- Each operation that leaves the state alone. -/
import Derived.Test.YtggdpckdlcngpaaDoorAbs6
set_option linter.unusedVariables false
set_option linter.unusedSimpArgs false
namespace Go.Proofs.YtggdpckdlcngpaaDoor.Abs
open Go.RowKit

/-- The object of its own that an operation makes. -/
def AOp.ownId (b : Nat) : AOp → Option Nat
  | .alloc k _ => some (b + k)
  | .box k _ => some (b + k)
  | .mkmap k => some (b + k)
  | .append k _ _ _ _ => some (b + k)
  | _ => none

section
variable {P : Program} {B : Nat} {w0 : World} {G : Gh} {s : ASt} {w : World}

theorem mapM_run {α β : Type} (f : α → Sem β) (g : α → β) (w : World) (hf : ∀ x, (f x).run P w = .ok (g x) w) : ∀ (l : List α), (l.mapM f).run P w = .ok (l.map g) w
  | [] => by simp
  | x :: l => by simp [List.mapM_cons, hf, mapM_run f g w hf l]

theorem mapM_run' {α β : Type} (f : α → Sem β) (g : α → β) (w : World) : ∀ (l : List α), (∀ x ∈ l, (f x).run P w = .ok (g x) w) → (l.mapM f).run P w = .ok (l.map g) w
  | [], _ => by simp
  | x :: l, hf => by simp [List.mapM_cons, hf x (List.mem_cons_self ..), mapM_run' f g w l (fun y hy => hf y (List.mem_cons_of_mem _ hy))]

theorem structParts_spec {fs : Array Field} : ∀ (xs : List (Nat × Operand)) (ps : List (Nat × Nat × AOpd)), structParts P fs xs = some ps → ps.length = xs.length ∧ ∀ (j : Nat) (i : Nat) (x : Operand) (off sz : Nat) (y : AOpd), xs[j]? = some (i, x) → ps[j]? = some (off, sz, y) →
    (∃ f, fs[i]? = some f ∧ f.offset = off ∧ sizeT P f.type = some sz) ∧ compOpd x = some y
  | [], ps, h => by simp only [structParts] at h; injection h with h; subst h; simp
  | (i, x) :: xs, ps, h => by
    simp only [structParts] at h
    split at h
    · rename_i f hf
      split at h
      · rename_i sz y r hs hy hr
        injection h with h; subst h
        obtain ⟨h1, h2⟩ := structParts_spec xs r hr
        refine ⟨by simp [h1], fun j i' x' off sz' y' hj hp => ?_⟩
        cases j with
        | zero =>
          simp at hj hp
          obtain ⟨rfl, rfl⟩ := hj
          obtain ⟨rfl, rfl, rfl⟩ := hp
          exact ⟨⟨f, hf, rfl, hs⟩, hy⟩
        | succ j => exact h2 j i' x' off sz' y' (by simpa using hj) (by simpa using hp)
      · cases h
    · cases h

theorem arrParts_spec {sz0 : Nat} : ∀ (xs : List (Nat × Operand)) (ps : List (Nat × Nat × AOpd)), arrParts sz0 xs = some ps → ps.length = xs.length ∧ ∀ (j : Nat) (i : Nat) (x : Operand) (off sz : Nat) (y : AOpd), xs[j]? = some (i, x) → ps[j]? = some (off, sz, y) →
    some (i * sz0, sz0) = some (off, sz) ∧ compOpd x = some y
  | [], ps, h => by simp only [arrParts] at h; injection h with h; subst h; simp
  | (i, x) :: xs, ps, h => by
    simp only [arrParts] at h
    split at h
    · rename_i y r hy hr
      injection h with h; subst h
      obtain ⟨h1, h2⟩ := arrParts_spec xs r hr
      refine ⟨by simp [h1], fun j i' x' off sz' y' hj hp => ?_⟩
      cases j with
      | zero =>
        simp at hj hp
        obtain ⟨rfl, rfl⟩ := hj
        obtain ⟨rfl, rfl, rfl⟩ := hp
        exact ⟨rfl, hy⟩
      | succ j => exact h2 j i' x' off sz' y' (by simpa using hj) (by simpa using hp)
    · cases h

theorem zeroCs_spec {t : TypeId} {z : List AV} (h : zeroCs P t = some z) : ∃ v, zeroVal P t = some v ∧ ofCells v.cells.toList = some z := by
  unfold zeroCs at h
  cases hz : zeroVal P t with
  | none => rw [hz] at h; cases h
  | some v => rw [hz] at h; exact ⟨v, rfl, h⟩

theorem zeroAV_spec {t : TypeId} {z : AV} (h : zeroAV P t = some z) : ∃ v, zeroVal P t = some v ∧ ofVal v = some z := by
  unfold zeroAV at h
  cases hz : zeroVal P t with
  | none => rw [hz] at h; cases h
  | some v => rw [hz] at h; exact ⟨v, rfl, h⟩

theorem alloc_sound (h : Sim B w0 G s w) {a : Act} {o : Oper} {t : TypeId} (ho : o.op = .alloc t) {z : List AV} (hz : zeroCs P t = some z) {n : Nat} (hn : n < s.ctr) (hf : G.Fresh n) (hh : s.heap n = some (.cells z))
    (hd : DfrR G s.dfr a.defers) : OpOK P B w0 G s w o a (some n) (.ptr n 0) s := by
  obtain ⟨v, hv, hc⟩ := zeroCs_spec hz
  obtain ⟨h1, h2⟩ := ofCells_VRs (G := G) hc
  obtain ⟨G', hle, hsim, hρ, hρ', hI⟩ := h.fresh n hn hf.1 (.cells z) (.cells v.cells t (0, 0)) hh (.cells h1 h2)
  refine ⟨.pointer (some ⟨w.heap.size, 0, none⟩), _, G', a.defers, fun next Q hq => ?_, .ptr hρ, hle, hsim, hd.mono hle, fun i _ hi hf' => ⟨?_, by rw [hI]; exact hf'.2⟩⟩
  · have : (execOp a.eval o).run P w = .ok (.value (.pointer (some ⟨w.heap.size, 0, none⟩))) { w with heap := w.heap.push (.cells v.cells t (0, 0)) } := by
      simp [execOp, ho, Instr.alloc, r_zero hv, newVar, newRow]
    rw [this]; exact hq
  · rw [hρ' i (by rintro rfl; exact hi rfl)]; exact hf'.1

theorem bytesV_sound : ∀ {l : List AV} {r : List UInt8}, bytesV l = some r → ∀ {c : List Value}, VRs G l c → ∃ ns : List Int, c = ns.map (Value.int .u8) ∧ r = ns.map fun n => UInt8.ofNat n.toNat
  | [], r, h, c, hc => by simp only [bytesV] at h; injection h with h; subst h; exact ⟨[], hc.nil_inv, rfl⟩
  | x :: l, r, h, c, hc => by
    simp only [bytesV] at h
    split at h
    · rename_i b q hb hq
      injection h with h; subst h
      obtain ⟨y, c', rfl, hv, hc'⟩ := hc.cons_inv
      obtain ⟨ns, h1, h2⟩ := bytesV_sound hq hc'
      unfold byteOfV at hb
      split at hb
      · rename_i n
        injection hb with hb; subst hb
        exact ⟨n :: ns, by rw [hv.int_inv, h1]; rfl, by rw [h2]; rfl⟩
      · cases hb
    · cases h

theorem r_bytesToString (ad : Addr) (cap : Nat) (ns : List Int) (n : Nat) (hn : ns.length = n) (hm : ∀ j c, (ns.map (Value.int .u8))[j]? = some c → w.cell? (ad.add j) = some c) :
    (Conv.bytesToString (.slice (some ad) n cap)).run P w = .ok (.string ⟨(ns.map fun n => UInt8.ofNat n.toNat).toArray⟩) w := by
  have h1 := run_loadCells_list (P := P) w ad (ns.map (Value.int .u8)) hm
  rw [List.length_map, hn] at h1
  have key : ∀ (f : Value → ByteArray → Sem (ForInStep ByteArray)) (hf : ∀ n s, f (.int .u8 n) s = pure (.yield (s.push (UInt8.ofNat n.toNat)))) (ns : List Int) (acc : List UInt8),
      (forIn (ns.map (Value.int .u8)) (⟨acc.toArray⟩ : ByteArray) f : Sem ByteArray).run P w = .ok ⟨(acc ++ ns.map fun n => UInt8.ofNat n.toNat).toArray⟩ w := by
    intro f hf ns
    induction ns with
    | nil => intro acc; simp
    | cons n ns ih =>
      intro acc
      rw [List.map_cons, List.forIn_cons, hf]
      simp only [Sem.run_bind, Sem.run_pure, Result.andThen_ok]
      have := ih (acc ++ [UInt8.ofNat n.toNat])
      simp only [List.append_assoc, List.singleton_append] at this
      rw [List.map_cons, ← this]
      congr 2
      simp [ByteArray.push]
  simp only [Conv.bytesToString, Sem.run_bind, h1, Result.andThen_ok]
  have e0 : (ByteArray.empty) = (⟨([] : List UInt8).toArray⟩ : ByteArray) := rfl
  rw [← Array.forIn_toList, e0, key _ (fun _ _ => rfl) ns []]
  simp

theorem binOp_eq {t : TypeId} {a b : Value} (h : noNum a) : (binOp .eql t a b).run P w = ((Op.equal t a b).run P w).andThen (fun r w' => .ok (.bool r) w') ∧
    (binOp .neq t a b).run P w = ((Op.equal t a b).run P w).andThen (fun r w' => .ok (.bool (!r)) w') := by
  cases a <;> first
    | (exact h.elim)
    | (constructor <;> (simp only [binOp]; simp))

/-- Operations that leave the state alone. -/
theorem opV_sound (h : Sim B w0 G s w) {e : AEnv} {a : Act} (hop : OpdR G e a) (hd : DfrR G s.dfr a.defers) {o : Oper} {k b : Nat} {x : AOp} (hc : compOp P k o.op = some x) (hk : x.kd = .v) {v : AV} (hv : opV (ev e) b s.heap x = some v)
    (hown : ∀ n, x.ownId b = some n → n < s.ctr ∧ G.Fresh n) : OpOK P B w0 G s w o a (x.ownId b) v s := by
  cases ho : o.op <;> rw [ho] at hc <;> simp only [compOp] at hc <;> try (cases hc; done)
  case move y =>
    cases hy : compOpd y with
    | none => rw [hy] at hc; cases hc
    | some y' =>
      rw [hy] at hc; injection hc with hc; subst hc
      simp only [opV] at hv; injection hv with hv; subst hv
      exact .val h hd (by simp [execOp, ho]) (hop.opd hy)
  case assign y =>
    cases hy : compOpd y with
    | none => rw [hy] at hc; cases hc
    | some y' =>
      rw [hy] at hc; injection hc with hc; subst hc
      simp only [opV] at hv; injection hv with hv; subst hv
      exact .val h hd (by simp [execOp, ho]) (hop.opd hy)
  case pick c y z =>
    split at hc
    · rename_i c' y' z' h1 h2 h3
      injection hc with hc; subst hc
      simp only [opV] at hv
      unfold pickV at hv
      split at hv
      · rename_i q hq
        injection hv with hv; subst hv
        have hcv := hop.opd h1
        rw [hq] at hcv
        refine .val h hd (cv := if q then a.eval y else a.eval z) (by simp [execOp, ho, hcv.bool_inv, asBool]) ?_
        cases q
        · exact hop.opd h3
        · exact hop.opd h2
      · cases hv
    · cases hc
  case alloc t =>
    split at hc
    · rename_i z hz
      injection hc with hc; subst hc
      simp only [opV] at hv
      split at hv
      · rename_i hh
        injection hv with hv; subst hv
        obtain ⟨hn, hf⟩ := hown (b + k) rfl
        exact alloc_sound h ho hz hn hf hh hd
      · cases hv
    · cases hc
  case box t y =>
    split at hc
    · injection hc with hc; subst hc; cases hk
    · cases hc
  case build t parts =>
    split at hc
    · rename_i fs z hu hz
      split at hc
      · rename_i hall
        cases hp : structParts P fs parts.toList with
        | none => rw [hp] at hc; cases hc
        | some ps =>
          rw [hp] at hc; injection hc with hc; subst hc
          simp only [opV] at hv
          cases hfv : fillV (ev e) z ps with
          | none => rw [hfv] at hv; cases hv
          | some l =>
            rw [hfv] at hv; injection hv with hv; subst hv
            obtain ⟨zv, hzv, hzc⟩ := zeroCs_spec hz
            obtain ⟨h1, h2⟩ := ofCells_VRs (G := G) hzc
            obtain ⟨h3, h4⟩ := structParts_spec parts.toList ps hp
            have hm : (fs.mapM fun (f : Field) => do pure (f.offset, ← sizeOf f.type)).run P w = .ok (fs.map fun (f : Field) => (f.offset, (sizeT P f.type).getD 0)) w := by
              rw [Array.mapM_eq_mapM_toList]
              rw [Sem.run_map, mapM_run' _ (fun (f : Field) => (f.offset, (sizeT P f.type).getD 0)) w fs.toList (fun f hf => by
                have := List.all_eq_true.1 hall f hf
                obtain ⟨n, hn⟩ := Option.isSome_iff_exists.1 this
                simp [r_size hn, hn])]
              simp only [Result.andThen_ok]
              congr 1
              apply Array.ext'
              simp
            obtain ⟨cs', h5, h6, h7⟩ := fill_VR hop (fun i => (fs.map fun (f : Field) => (f.offset, (sizeT P f.type).getD 0))[i]?) parts.toList ps z l zv.cells ⟨h3, fun j i x off sz y hj hp' => by
              obtain ⟨⟨f, hf, h8, h9⟩, h10⟩ := h4 j i x off sz y hj hp'
              exact ⟨by simp [hf, h8, h9], h10⟩⟩ hfv h1 h2
            have h5' : Instr.fill (fun i => (fs.map fun (f : Field) => (f.offset, (sizeT P f.type).getD 0))[i]?) zv.cells (Array.map (fun (x : Nat × Operand) => match x with | (i, x) => (i, a.eval x)) parts).toList = some cs' := by
              rw [Array.toList_map]; exact h5
            refine .val h hd (cv := .agg cs') ?_ (VR.agg' h6 h7)
            simp only [execOp, ho, Instr.build, Sem.run_bind, r_zero hzv, r_und hu, Result.andThen_ok, hm]
            rw [h5']
            simp
      · cases hc
    · rename_i n el z hu hz
      split at hc
      · rename_i sz hsz
        cases hp : arrParts sz parts.toList with
        | none => rw [hp] at hc; cases hc
        | some ps =>
          rw [hp] at hc; injection hc with hc; subst hc
          simp only [opV] at hv
          cases hfv : fillV (ev e) z ps with
          | none => rw [hfv] at hv; cases hv
          | some l =>
            rw [hfv] at hv; injection hv with hv; subst hv
            obtain ⟨zv, hzv, hzc⟩ := zeroCs_spec hz
            obtain ⟨h1, h2⟩ := ofCells_VRs (G := G) hzc
            obtain ⟨h3, h4⟩ := arrParts_spec parts.toList ps hp
            obtain ⟨cs', h5, h6, h7⟩ := fill_VR hop (fun i => some (i * sz, sz)) parts.toList ps z l zv.cells ⟨h3, h4⟩ hfv h1 h2
            have h5' : Instr.fill (fun i => some (i * sz, sz)) zv.cells (Array.map (fun (x : Nat × Operand) => match x with | (i, x) => (i, a.eval x)) parts).toList = some cs' := by
              rw [Array.toList_map]; exact h5
            refine .val h hd (cv := .agg cs') ?_ (VR.agg' h6 h7)
            simp only [execOp, ho, Instr.build, Sem.run_bind, r_zero hzv, r_und hu, r_size hsz, Result.andThen_ok]
            rw [h5']
            simp
      · cases hc
    · cases hc
  case buildSlice t len parts =>
    split at hc
    · rename_i el hu
      split at hc
      · rename_i sz z hsz hz
        split at hc
        · rename_i hcond
          cases hp : rowParts parts.toList 0 with
          | none => rw [hp] at hc; cases hc
          | some ps =>
            rw [hp] at hc; injection hc with hc; subst hc
            simp only [opV] at hv
            cases hes : partsV (ev e) sz ps with
            | none => rw [hes] at hv; cases hv
            | some es =>
              rw [hes] at hv; injection hv with hv; subst hv
              obtain ⟨cv, w', G', hr, hvr, hle, hsim, hρ, hI⟩ := buildSlice_sound h hop hu hsz hz hcond.1 hcond.2.1 hcond.2.2.1 hcond.2.2.2 hp hes
              refine ⟨cv, w', G', a.defers, fun next Q hq => ?_, hvr, hle, hsim, hd.mono hle, .same _ _ hρ hI⟩
              have : (execOp a.eval o).run P w = .ok (.value cv) w' := by
                simp only [execOp, ho, Sem.run_bind]
                rw [hr]; rfl
              rw [this]; exact hq
        · cases hc
      · cases hc
    · cases hc
  case load t y =>
    split at hc
    · rename_i g sz y' hg hs hy
      split at hc
      · injection hc with hc; subst hc
        simp only [opV] at hv
        obtain ⟨ad, cv, he, hr, hvr⟩ := ld_sound h hg hs hv (hop.opd hy)
        exact .val h hd (by simp [execOp, ho, Instr.loadAt, he, Instr.sureAddr, hr]) hvr
      · cases hc
    · cases hc
  case store t y z =>
    split at hc
    · injection hc with hc; subst hc; cases hk
    · cases hc
  case nilCheck y =>
    cases hy : compOpd y with
    | none => rw [hy] at hc; cases hc
    | some y' =>
      rw [hy] at hc; injection hc with hc; subst hc
      simp only [opV] at hv
      have hyv := hop.opd hy
      have e1 : v = ev e y' := by
        unfold nilChk at hv
        split at hv
        · cases hv
        · cases hv
        · injection hv with hv; exact hv.symm
      subst e1
      refine .val h hd (cv := a.eval y) ?_ hyv
      simp only [execOp, ho]
      generalize ev e y' = q at *
      generalize a.eval y = c at *
      cases hyv <;> first | (simp [nilChk] at hv; done) | rfl
  case binOp op t y z u =>
    split at hc
    · rename_i y' z' hy hz
      have vy := hop.opd hy
      have vz := hop.opd hz
      have run : ∀ c r, (eqGuard op t y z (a.eval y) (a.eval z)).run P w = .ok () w → (binOp op t (a.eval y) (a.eval z)).run P w = .ok c r → (execOp a.eval o).run P w = .ok (.value c) r := by
        intro c r h1 h2
        simp [execOp, ho, h1, h2]
      have hbin : ∀ vv, binV op (ev e y') (ev e z') = some vv → ∃ c, (execOp a.eval o).run P w = .ok (.value c) w ∧ VR G vv c := by
        intro vv hvv
        obtain ⟨hform, c, h1, h2⟩ := binV_sound (w := w) (P := P) hvv vy vz t
        refine ⟨c, run c w (r_eqGuard_scalar ?_) h1, h2⟩
        rcases hform with ⟨k, n, hq⟩ | ⟨q, hq⟩ <;> rw [hq] <;> trivial
      have heq : ∀ neq r, isEq op = some neq → (Op.equal t (a.eval y) (a.eval z)).run P w = .ok r w → (eqGuard op t y z (a.eval y) (a.eval z)).run P w = .ok () w →
          noNum (a.eval y) → (execOp a.eval o).run P w = .ok (.value (.bool (neq != r))) w := by
        intro neq r hn h1 h2 h3
        refine run _ _ h2 ?_
        obtain ⟨e1, e2⟩ := binOp_eq (P := P) (w := w) (t := t) (b := a.eval z) h3
        cases op <;> simp [isEq] at hn <;> subst hn
        · rw [e1, h1]; simp
        · rw [e2, h1]; simp
      unfold compBin at hc
      split at hc
      · injection hc with hc; subst hc
        simp only [opV] at hv
        obtain ⟨c, h1, h2⟩ := hbin v hv
        exact .val h hd h1 h2
      · injection hc with hc; subst hc
        simp only [opV] at hv
        obtain ⟨c, h1, h2⟩ := hbin v hv
        exact .val h hd h1 h2
      · rename_i hu
        cases hn : isEq op with
        | none => rw [hn] at hc; cases hc
        | some neq =>
          rw [hn] at hc; injection hc with hc; subst hc
          simp only [opV] at hv
          cases hr : nilV true (ev e y') (ev e z') with
          | none => rw [hr] at hv; cases hv
          | some r =>
            rw [hr] at hv; injection hv with hv; subst hv
            obtain ⟨h1, h2, h3⟩ := nilV_func (w := w) hu hr vy vz
            exact .val h hd (heq neq r hn h1 (r_eqGuard_scalar h2) h3) (.bool _)
      · rename_i hu
        cases hn : isEq op with
        | none => rw [hn] at hc; cases hc
        | some neq =>
          rw [hn] at hc; injection hc with hc; subst hc
          simp only [opV] at hv
          cases hr : nilV false (ev e y') (ev e z') with
          | none => rw [hr] at hv; cases hv
          | some r =>
            rw [hr] at hv; injection hv with hv; subst hv
            obtain ⟨h1, h2, h3⟩ := nilV_ptr (w := w) hu hr vy vz
            exact .val h hd (heq neq r hn h1 (r_eqGuard_scalar h2) h3) (.bool _)
      · rename_i hni hns hnf hnp
        split at hc
        · rename_i neq kt hn hkt
          split at hc
          · cases hc
          · rename_i hguard
            injection hc with hc; subst hc
            simp only [opV] at hv
            cases hr : eqKey kt (ev e y') (ev e z') with
            | none => rw [hr] at hv; cases hv
            | some r =>
              rw [hr] at hv; injection hv with hv; subst hv
              have h1 := key_sound (w := w) hkt hr vy vz
              have hform : (∃ p, ev e y' = .bool p) ∨ ∃ l m, ev e y' = .agg l ∧ ev e z' = .agg m := by
                unfold keyT at hkt
                split at hkt
                · injection hkt with hkt; subst hkt
                  generalize ev e y' = q at *
                  cases q <;> simp [eqKey, eqT] at hr
                  exact .inl ⟨_, rfl⟩
                · rename_i k hu; exact absurd hu (hni k)
                · rename_i hu; exact absurd hu hns
                · split at hkt
                  · split at hkt
                    · injection hkt with hkt; subst hkt
                      generalize ev e y' = q at *
                      generalize ev e z' = q' at *
                      cases q <;> cases q' <;> simp [eqKey] at hr
                      exact .inr ⟨_, _, rfl, rfl⟩
                    · cases hkt
                  · cases hkt
                · split at hkt
                  · split at hkt
                    · injection hkt with hkt; subst hkt
                      generalize ev e y' = q at *
                      generalize ev e z' = q' at *
                      cases q <;> cases q' <;> simp [eqKey] at hr
                      exact .inr ⟨_, _, rfl, rfl⟩
                    · cases hkt
                  · cases hkt
                · cases hkt
              rcases hform with ⟨p, hp⟩ | ⟨l, m, hl, hm⟩
              · rw [hp] at vy
                have e1 := vy.bool_inv
                refine .val h hd (heq neq r hn h1 (r_eqGuard_scalar (by rw [e1]; trivial)) (by rw [e1]; trivial)) (.bool _)
              · rw [hl] at vy; rw [hm] at vz
                obtain ⟨xs, e1, _, _⟩ := vy.agg_inv
                obtain ⟨ys, e2, _, _⟩ := vz.agg_inv
                refine .val h hd (heq neq r hn h1 ?_ (by rw [e1]; trivial)) (.bool _)
                rw [e1, e2]
                exact run_eqGuard_agg w op t y z xs ys (by simpa using hguard)
        · cases hc
    · cases hc
  case unOp op t y =>
    cases hy : compOpd y with
    | none => rw [hy] at hc; cases hc
    | some y' =>
      rw [hy] at hc; injection hc with hc; subst hc
      simp only [opV] at hv
      have vy := hop.opd hy
      generalize hq : ev e y' = q at *
      cases q <;> simp [unV] at hv
      · rename_i p
        cases op <;> simp at hv
        subst hv
        exact .val h hd (cv := .bool (!p)) (by simp [execOp, ho, vy.bool_inv, Op.unary]) (.bool _)
      · rename_i kk n
        cases op <;> simp at hv
        subst hv
        exact .val h hd (cv := .int kk (kk.wrap (-n))) (by simp [execOp, ho, vy.int_inv, Op.unary, Op.intArith]) (.int _ _)
  case convert src dst y =>
    cases hy : compOpd y with
    | none => rw [hy] at hc; cases hc
    | some y' =>
      rw [hy] at hc
      simp only [Option.bind_some] at hc
      have vy := hop.opd hy
      unfold compConv at hc
      split at hc
      · rename_i kk k2 hu1 hu2
        injection hc with hc; subst hc
        simp only [opV] at hv
        generalize hq : ev e y' = q at *
        cases q <;> simp at hv
        subst hv
        exact .val h hd (by simp [execOp, ho, convert, r_und hu1, r_und hu2, vy.int_inv, Conv.intToInt]) (.int _ _)
      · rename_i kk hu1 hu2
        injection hc with hc; subst hc
        simp only [opV] at hv
        generalize hq : ev e y' = q at *
        cases q <;> simp at hv
        subst hv
        rename_i n
        exact .val h hd (cv := .string (Utf8.encode n)) (by simp [execOp, ho, convert, r_und hu1, r_und hu2, vy.int_inv, Conv.intToString]) (by
          have : (⟨(Utf8.encode n).data.toList.toArray⟩ : ByteArray) = Utf8.encode n := by simp
          rw [← this]; simpa using VR.str (G := G) (Utf8.encode n).data.toList)
      · rename_i hu1 hu2
        injection hc with hc; subst hc
        simp only [opV] at hv
        generalize hq : ev e y' = q at *
        cases q <;> simp at hv
        subst hv
        exact .val h hd (by simp [execOp, ho, convert, r_und hu1, r_und hu2, vy.str_inv]) (.str _)
      · rename_i el hu1 hu2
        split at hc
        · rename_i hu3
          injection hc with hc; subst hc
          simp only [opV] at hv
          have fin : ∀ c r, a.eval y = c → (match c with | .slice _ _ _ => True | _ => False) → (Conv.bytesToString c).run P w = .ok (.string ⟨r.toArray⟩) w → v = .str r → OpOK P B w0 G s w o a none v s := by
            intro c r h1 h2 h3 h4
            subst h4
            refine .val h hd (cv := .string ⟨r.toArray⟩) ?_ (.str _)
            cases c <;> first | (exact h2.elim) | skip
            simp only [execOp, ho, h1, convert, Sem.run_bind, r_und hu1, r_und hu2, r_und hu3, Result.andThen_ok]
            rw [h3]; rfl
          generalize hq : ev e y' = q at *
          cases q <;> simp [strOfV] at hv
          · rename_i ow es
            obtain ⟨r, hb, hv⟩ := hv
            generalize hcy : a.eval y = c at *
            cases vy with
            | slice sz cv h0 h1 h2 h3 h4 h5 =>
              rename_i A n cap
              cases es with
              | nil =>
                simp only [bytesV] at hb; injection hb with hb; subst hb
                simp only [List.length_nil] at h0; subst h0
                cases A with
                | none => exact fin _ [] rfl trivial (by simp [Conv.bytesToString]; rfl) hv.symm
                | some ad => exact fin _ [] rfl trivial (by have := r_bytesToString (P := P) (w := w) ad cap [] 0 rfl (by simp); simpa using this) hv.symm
              | cons e0 es =>
                obtain ⟨ad, hA⟩ := Option.isSome_iff_exists.1 (h3 (by simp))
                subst hA
                have hone : ∀ z ∈ e0 :: es, z.cells = [z] := by
                  have : ∀ (l : List AV) (r : List UInt8), bytesV l = some r → ∀ z ∈ l, z.cells = [z] := by
                    intro l
                    induction l with
                    | nil => intro r _ z hz; cases hz
                    | cons q l ih =>
                      intro r hr z hz
                      simp only [bytesV] at hr
                      split at hr
                      · rename_i b1 r1 hb1 hr1
                        cases hz with
                        | head => unfold byteOfV at hb1; split at hb1 <;> first | rfl | cases hb1
                        | tail _ hz => exact ih r1 hr1 z hz
                      · cases hr
                  exact this _ _ hb
                have hsz : sz = 1 := by have := (h2 e0 (by simp)).2.1; rw [hone e0 (by simp)] at this; simpa using this.symm
                subst hsz
                have hvrs : VRs G (e0 :: es) ((List.range (e0 :: es).length).map cv) := ⟨by simp, fun j x y hx hy => by
                  have hj : j < (e0 :: es).length := by
                    rcases Nat.lt_or_ge j (e0 :: es).length with h' | h'
                    · exact h'
                    · rw [List.getElem?_eq_none h'] at hx; cases hx
                  rw [List.getElem?_map, List.getElem?_range hj] at hy
                  injection hy with hy; subst hy
                  have := h5 j x 0 x hx (by rw [hone x (List.mem_of_getElem? hx)]; rfl)
                  simpa using this⟩
                obtain ⟨ns, hn1, hn2⟩ := bytesV_sound hb hvrs
                have hl : ns.length = (e0 :: es).length := by have := congrArg List.length hn1; simpa using this.symm
                refine fin _ r rfl trivial ?_ hv.symm
                rw [hn2]
                refine r_bytesToString ad cap ns n (by rw [hl, h0]) (fun j c hj => ?_)
                rw [← hn1] at hj
                have hj' : j < (e0 :: es).length := by
                  rcases Nat.lt_or_ge j (e0 :: es).length with h' | h'
                  · exact h'
                  · rw [List.getElem?_eq_none (by simpa using h')] at hj; cases hj
                rw [List.getElem?_map, List.getElem?_range hj'] at hj
                injection hj with hj; subst hj
                exact h.comm _ _ (h4 ad rfl j (by simpa using hj'))
          · rename_i id off len cap
            generalize hcy : a.eval y = c at *
            cases vy with
            | mslice hb hoff hle =>
              rename_i b' off'
              obtain ⟨_, _, _, ob, x, hob, hx, hr⟩ := h.obj id b' hb
              rw [hob] at hv
              cases hr with
              | map h1 => simp [bytesObj] at hv
              | cells h1 h2 =>
                rename_i l cs ty
                simp only [bytesObj] at hv
                split at hv
                · rename_i hfit
                  cases hbv : bytesV ((l.drop off).take len) with
                  | none => rw [hbv] at hv; cases hv
                  | some r =>
                    rw [hbv] at hv
                    injection hv with hv
                    obtain ⟨ns, hn1, hn2⟩ := bytesV_sound hbv ((h1.drop off).take len)
                    have hl : ns.length = len := by
                      have := congrArg List.length hn1
                      simp only [List.length_take, List.length_drop, Array.length_toList, List.length_map] at this
                      have hcl := h1.1; simp only [Array.length_toList] at hcl
                      omega
                    refine fin _ r rfl trivial ?_ hv.symm
                    rw [hn2]
                    refine r_bytesToString _ cap ns len hl (fun j c hj => ?_)
                    rw [← hn1] at hj
                    have hj' : j < len := by
                      rcases Nat.lt_or_ge j len with h' | h'
                      · exact h'
                      · rw [List.getElem?_take, if_neg (by omega)] at hj; cases hj
                    rw [List.getElem?_take, if_pos hj', List.getElem?_drop] at hj
                    rw [hoff (by omega), add_at]
                    simp only [World.cell?, hx]
                    simpa using hj
                · cases hv
        · cases hc
      · cases hc
  case makeFunc fn first captured =>
    cases fn <;> simp only at hc <;> try (cases hc; done)
    rename_i f
    split at hc
    · rename_i p q hp hq
      injection hc with hc; subst hc
      simp only [opV] at hv; injection hv with hv; subst hv
      exact .val h hd (cv := .func (.func f) (first.map a.eval) (captured.map a.eval)) (by simp [execOp, ho, Instr.makeFunc]) (VR.func' (by simpa using hop.opds hp) (by simpa using hop.opds hq))
    · cases hc
  case makeMap t r =>
    cases r <;> simp only at hc
    · injection hc with hc; subst hc; cases hk
    · cases hc
  case slice t y lo hi mx =>
    cases mx <;> simp only at hc
    · split at hc
      · rename_i y' lo' hi' hy hlo hhi
        have vy := hop.opd hy
        unfold compSlice at hc
        split at hc
        · rename_i hu
          injection hc with hc; subst hc
          simp only [opV] at hv
          generalize hq : ev e y' = q at *
          cases q <;> simp [slStrV] at hv
          rename_i st
          obtain ⟨l, hh, hb, hv⟩ := hv
          subst hv
          have hsz : (⟨st.toArray⟩ : ByteArray).size = st.length := by simp [ByteArray.size]
          obtain ⟨hrun, hle, hcap⟩ := r_bounds (w := w) (P := P) hop hlo hhi hb (Nat.le_refl _) (Nat.le_refl _) false
          refine .val h hd (cv := .string ⟨((st.take hh).drop l).toArray⟩) ?_ (.str _)
          simp only [execOp, ho, Instr.sliceAt, Instr.slice, vy.str_inv, Sem.run_bind, r_und hu, Result.andThen_ok, Option.map_none, Option.isSome_none, Bool.false_eq_true, if_false, hsz, hrun, Sem.run_pure]
          have e2 : (⟨st.toArray⟩ : ByteArray).extract l hh = ⟨((st.take hh).drop l).toArray⟩ := by
            apply ByteArray.ext
            simp [List.drop_take]
          rw [e2]
        · rename_i el hu
          cases hsz : sizeT P el with
          | none => rw [hsz] at hc; cases hc
          | some sz =>
            rw [hsz] at hc; injection hc with hc; subst hc
            simp only [opV] at hv
            generalize hq : ev e y' = q at *
            cases q <;> simp [slV] at hv
            rename_i ow es
            obtain ⟨hhead, l, hh, hb, hv⟩ := hv
            subst hv
            generalize hcy : a.eval y = c at *
            cases vy with
            | slice sz' cv h0 h1 h2 h3 h4 h5 =>
              rename_i A n cap
              subst h0
              obtain ⟨hrun, hle, hcap⟩ := r_bounds (w := w) (P := P) hop hlo hhi hb h1.le h1.le true
              have hln : ((es.take hh).drop l).length = hh - l := by simp; omega
              refine .val h hd (cv := .slice (if cap = l then A else A.map (·.add (l * sz))) (hh - l) (cap - l)) ?_ ?_
              · simp only [execOp, ho, Instr.sliceAt, Instr.slice, hcy, Sem.run_bind, r_und hu, Result.andThen_ok, Option.map_none, hrun, r_size hsz, Sem.run_pure]
              · refine .slice sz' (fun j => cv (l * sz' + j)) hln.symm ?_ (fun z hz => h2 z (List.mem_of_mem_take (List.mem_of_mem_drop hz))) (fun hpos => ?_) (fun ad ha j hj => ?_) (fun i z j x hi hj => ?_)
                · have hcl := h1.le
                  cases ow with
                  | full =>
                    simp only [cutOwn]
                    split
                    · rename_i e1; subst e1; have : cap = es.length := h1; simp only [SlOK]; omega
                    · simp only [SlOK]; omega
                  | foreign => simp only [cutOwn, SlOK]; omega
                  | own id =>
                    simp only [cutOwn]
                    split
                    · rename_i e1
                      obtain ⟨e1, e2⟩ := e1
                      subst e1; subst e2
                      obtain ⟨h6, bb, hA, hI⟩ := h1
                      refine ⟨by omega, bb, ?_, by simpa using hI⟩
                      subst hA
                      simp [Addr.add]
                    · simp only [SlOK]; omega
                · rw [hln] at hpos
                  have hA := h3 (by omega)
                  split
                  · exact hA
                  · simpa using hA
                · rw [hln] at hj
                  have hpos : 0 < hh - l := by
                    rcases Nat.eq_zero_or_pos (hh - l) with h' | h'
                    · rw [h'] at hj; omega
                    · exact h'
                  have hcl := h1.le
                  rw [if_neg (by omega)] at ha
                  obtain ⟨ad0, hA⟩ := Option.isSome_iff_exists.1 (h3 (by omega))
                  subst hA
                  simp only [Option.map_some] at ha; injection ha with ha; subst ha
                  have hss : sz' = sz := by
                    cases es with
                    | nil => simp at hcap; omega
                    | cons e0 es => have h7 := (h2 e0 (by simp)).2.1; simp only [headSz, beq_iff_eq] at hhead; omega
                  subst hss
                  rw [add_add]
                  refine h4 ad0 rfl (l * sz' + j) ?_
                  have h8 : (l + (hh - l)) * sz' ≤ es.length * sz' := Nat.mul_le_mul_right _ (by omega)
                  rw [Nat.add_mul] at h8
                  omega
                · rw [List.getElem?_drop, List.getElem?_take] at hi
                  split at hi
                  · have := h5 (l + i) z j x hi hj
                    rwa [Nat.add_mul, Nat.add_assoc] at this
                  · cases hi
        · rename_i n el hu
          cases hsz : sizeT P el with
          | none => rw [hsz] at hc; cases hc
          | some sz =>
            rw [hsz] at hc; injection hc with hc; subst hc
            simp only [opV] at hv
            generalize hq : ev e y' = q at *
            cases q <;> simp [slArrV] at hv
            rename_i id off
            obtain ⟨l, hh, hb, hv⟩ := hv
            subst hv
            generalize hcy : a.eval y = c at *
            cases vy with
            | ptr hb' =>
              rename_i b'
              obtain ⟨hrun, hle, hcap⟩ := r_bounds (w := w) (P := P) hop hlo hhi hb (Nat.le_refl _) (Nat.le_refl _) false
              refine .val h hd (cv := .slice (some ⟨b', if n = l then off else off + l * sz, none⟩) (hh - l) (n - l)) ?_ (.mslice hb' (fun hne => if_neg (by omega)) (by omega))
              simp only [execOp, ho, Instr.sliceAt, hcy, Sem.run_bind, r_und hu, Result.andThen_ok, Option.map_none, Instr.sureAddr, Sem.run_pure, hrun, r_size hsz, add_at]
              congr 3
              split <;> rfl
        · cases hc
      · cases hc
    · cases hc
  case fieldAddr t y f =>
    split at hc
    · rename_i fs y' hu hy
      split at hc
      · rename_i fd hf
        split at hc
        · rename_i sz hsz
          split at hc
          · rename_i hne
            injection hc with hc; subst hc
            simp only [opV] at hv
            have vy := hop.opd hy
            have run : ∀ ad, a.eval y = .pointer (some ad) → (execOp a.eval o).run P w = .ok (.value (.pointer (some (ad.add fd.offset)))) w := by
              intro ad had
              simp [execOp, ho, Instr.fieldAt, r_und hu, hf, had, Instr.sureAddr, fieldPlace, r_size hsz, hne]
            generalize hq : ev e y' = q at *
            cases q <;> simp [fadV] at hv
            · subst hv
              generalize hcy : a.eval y = c at *
              cases vy with
              | ptr hb => exact .val h hd (by have := run _ rfl; rw [add_at] at this; exact this) (.ptr hb)
            · subst hv
              generalize hcy : a.eval y = c at *
              cases vy with
              | eref cv h1 h2 h3 =>
                exact .val h hd (run _ rfl) (.eref (fun j => cv (fd.offset + j)) (fun j hj => by rw [add_add]; exact h1 _ (by simp at hj; omega)) (fun j x hj => h2 _ x (by rw [List.getElem?_drop] at hj; exact hj)) (fun x hx => h3 x (List.mem_of_mem_drop hx)))
          · cases hc
        · cases hc
      · cases hc
    · cases hc
  case field t y f =>
    split at hc
    · rename_i fs y' hu hy
      split at hc
      · rename_i fd hf
        split at hc
        · rename_i g sz hg hsz
          injection hc with hc; subst hc
          simp only [opV] at hv
          have vy := hop.opd hy
          generalize hq : ev e y' = q at *
          cases q <;> simp [fldV] at hv
          rename_i l
          obtain ⟨cs, hcs, h1, h2⟩ := vy.agg_inv
          rcases ldCells_VR hv (h1.drop fd.offset) (fun x hx => h2 x (List.mem_of_mem_drop hx)) with ⟨rfl, hs', hvr⟩ | ⟨rfl, c, hc0, hvr⟩
          · refine .val h hd ?_ hvr
            simp only [execOp, ho, Instr.field, hcs, Sem.run_bind, r_und hu, Result.andThen_ok, hf, asAgg, Sem.run_pure, part, r_agg hg, if_true, r_size hsz]
            congr 3
            apply Array.ext'
            simp [List.drop_take]
          · refine .val h hd ?_ hvr
            rw [List.getElem?_drop, Nat.add_zero] at hc0
            simp only [execOp, ho, Instr.field, hcs, Sem.run_bind, r_und hu, Result.andThen_ok, hf, asAgg, Sem.run_pure, part, r_agg hg, Bool.false_eq_true, if_false]
            have : cs[fd.offset]? = some c := by simpa using hc0
            rw [this]; rfl
        · cases hc
      · cases hc
    · cases hc
  case indexAddr t y i =>
    split at hc
    · rename_i el y' i' hu hy hi
      cases hsz : sizeT P el with
      | none => rw [hsz] at hc; cases hc
      | some sz =>
        rw [hsz] at hc; injection hc with hc; subst hc
        simp only [opV] at hv
        have vy := hop.opd hy
        have vi := hop.opd hi
        generalize hq : ev e y' = q at *
        cases q <;> simp only [idxV] at hv <;> try (cases hv; done)
        · rename_i ow es
          split at hv
          · rename_i n hn
            obtain ⟨kk, ii, hii, h0, h1⟩ := natOf_sound hn vi
            split at hv
            · rename_i z hz
              split at hv
              · rename_i hzl
                injection hv with hv; subst hv
                generalize hcy : a.eval y = c at *
                have hnl : n < es.length := by
                  rcases Nat.lt_or_ge n es.length with h' | h'
                  · exact h'
                  · rw [List.getElem?_eq_none h'] at hz; cases hz
                cases vy with
                | slice sz' cv e0 h1' h2 h3 h4 h5 =>
                  rename_i A n' cap
                  subst e0
                  obtain ⟨ad, hA⟩ := Option.isSome_iff_exists.1 (h3 (by omega))
                  subst hA
                  have hss : sz' = sz := by have := (h2 z (List.mem_of_getElem? hz)).2.1; omega
                  subst hss
                  refine .val h hd (cv := .pointer (some (ad.add (n * sz')))) ?_ (.eref (fun j => cv (n * sz' + j)) (fun j hj => ?_) (fun j x hj => h5 n z j x hz hj) (h2 z (List.mem_of_getElem? hz)).2.2)
                  · simp only [execOp, ho, Instr.indexAt, hcy, hii, asIntOf, Sem.run_bind, Sem.run_pure, Result.andThen_ok, r_und hu, Sem.run_ite]
                    rw [if_pos ⟨h0, by omega⟩, r_size hsz, h1]
                    rfl
                  · rw [add_add]
                    refine h4 ad rfl _ ?_
                    have : (n + 1) * sz' ≤ es.length * sz' := Nat.mul_le_mul_right _ hnl
                    rw [Nat.succ_mul] at this; omega
              · cases hv
            · cases hv
          · cases hv
        · rename_i id off len cap
          split at hv
          · rename_i n hn
            obtain ⟨kk, ii, hii, h0, h1⟩ := natOf_sound hn vi
            split at hv
            · rename_i hnl
              injection hv with hv; subst hv
              generalize hcy : a.eval y = c at *
              cases vy with
              | mslice hb hoff hle =>
                rename_i b' off'
                refine .val h hd (cv := .pointer (some ⟨b', off + n * sz, none⟩)) ?_ (.ptr hb)
                simp only [execOp, ho, Instr.indexAt, hcy, hii, asIntOf, Sem.run_bind, Sem.run_pure, Result.andThen_ok, r_und hu, Sem.run_ite]
                rw [if_pos ⟨h0, by omega⟩, r_size hsz, h1, hoff (by omega)]
                simp only [Result.andThen_ok, add_at]
            · cases hv
          · cases hv
    · rename_i len el y' i' hu hy hi
      cases hsz : sizeT P el with
      | none => rw [hsz] at hc; cases hc
      | some sz =>
        rw [hsz] at hc; injection hc with hc; subst hc
        simp only [opV] at hv
        have vy := hop.opd hy
        have vi := hop.opd hi
        have run : ∀ ad n, a.eval y = .pointer (some ad) → natOf (ev e i') = some n → n < len → (execOp a.eval o).run P w = .ok (.value (.pointer (some (ad.add (n * sz))))) w := by
          intro ad n had hn hnl
          obtain ⟨kk, ii, hii, h0, h1⟩ := natOf_sound hn vi
          simp only [execOp, ho, Instr.indexAt, had, hii, asIntOf, Sem.run_bind, Sem.run_pure, Result.andThen_ok, r_und hu, Sem.run_ite, Instr.sureAddr]
          rw [if_pos ⟨h0, by omega⟩, r_size hsz, h1]
          rfl
        generalize hq : ev e y' = q at *
        cases q <;> simp only [idxArrV] at hv <;> try (cases hv; done)
        · rename_i id off
          split at hv
          · rename_i n hn
            split at hv
            · rename_i hnl
              injection hv with hv; subst hv
              generalize hcy : a.eval y = c at *
              cases vy with
              | ptr hb => exact .val h hd (by have := run _ n rfl hn hnl; rw [add_at] at this; exact this) (.ptr hb)
            · cases hv
          · cases hv
        · rename_i cells
          split at hv
          · rename_i n hn
            split at hv
            · rename_i hnl
              injection hv with hv; subst hv
              generalize hcy : a.eval y = c at *
              cases vy with
              | eref cv h1 h2 h3 =>
                exact .val h hd (run _ n rfl hn hnl) (.eref (fun j => cv (n * sz + j)) (fun j hj => by rw [add_add]; exact h1 _ (by simp at hj; omega)) (fun j x hj => h2 _ x (by rw [List.getElem?_drop] at hj; exact hj)) (fun x hx => h3 x (List.mem_of_mem_drop hx)))
            · cases hv
          · cases hv
    · cases hc
  case index t y i =>
    split at hc
    · rename_i y' i' hu hy hi
      injection hc with hc; subst hc
      simp only [opV] at hv
      have vy := hop.opd hy
      have vi := hop.opd hi
      generalize hq : ev e y' = q at *
      cases q <;> simp only [strAt] at hv <;> try (cases hv; done)
      rename_i st
      split at hv
      · rename_i n hn
        obtain ⟨kk, ii, hii, h0, h1⟩ := natOf_sound hn vi
        cases hg : st[n]? with
        | none => rw [hg] at hv; cases hv
        | some b1 =>
          rw [hg] at hv; injection hv with hv; subst hv
          refine .val h hd (cv := .int .u8 b1.toNat) ?_ (.int _ _)
          have e1 : (⟨st.toArray⟩ : ByteArray)[n]? = some b1 := by
            have hl : n < st.length := by
              rcases Nat.lt_or_ge n st.length with h' | h'
              · exact h'
              · rw [List.getElem?_eq_none h'] at hg; cases hg
            have hl' : n < (⟨st.toArray⟩ : ByteArray).size := by simpa [ByteArray.size] using hl
            rw [getElem?_pos (⟨st.toArray⟩ : ByteArray) n hl']
            rw [List.getElem?_eq_getElem hl] at hg
            injection hg with hg
            rw [← hg]; rfl
          simp only [execOp, ho, Instr.index, vy.str_inv, hii, asIntOf, Sem.run_bind, Sem.run_pure, Result.andThen_ok, r_und hu]
          rw [if_pos h0, h1, e1]
          rfl
      · cases hv
    · rename_i len el y' i' hu hy hi
      split at hc
      · rename_i g sz hg hsz
        injection hc with hc; subst hc
        simp only [opV] at hv
        have vy := hop.opd hy
        have vi := hop.opd hi
        generalize hq : ev e y' = q at *
        cases q <;> simp only [aggAt] at hv <;> try (cases hv; done)
        rename_i l
        split at hv
        · rename_i n hn
          obtain ⟨kk, ii, hii, h0, h1⟩ := natOf_sound hn vi
          split at hv
          · rename_i hnl
            obtain ⟨cs, hcs, h3, h4⟩ := vy.agg_inv
            rcases ldCells_VR hv (h3.drop (n * sz)) (fun x hx => h4 x (List.mem_of_mem_drop hx)) with ⟨rfl, hs', hvr⟩ | ⟨rfl, c, hc0, hvr⟩
            · refine .val h hd ?_ hvr
              simp only [execOp, ho, Instr.index, hcs, hii, asIntOf, Sem.run_bind, Sem.run_pure, Result.andThen_ok, r_und hu, Sem.run_ite]
              rw [if_pos ⟨h0, by omega⟩, r_size hsz, h1]
              simp only [Result.andThen_ok, part, Sem.run_bind, r_agg hg, if_true, r_size hsz, Sem.run_pure]
              congr 3
              apply Array.ext'
              simp [List.drop_take]
            · refine .val h hd ?_ hvr
              rw [List.getElem?_drop, Nat.add_zero] at hc0
              simp only [execOp, ho, Instr.index, hcs, hii, asIntOf, Sem.run_bind, Sem.run_pure, Result.andThen_ok, r_und hu, Sem.run_ite]
              rw [if_pos ⟨h0, by omega⟩, r_size hsz, h1]
              have : cs[n * sz]? = some c := by simpa using hc0
              simp only [Result.andThen_ok, part, Sem.run_bind, r_agg hg, Bool.false_eq_true, if_false, this, Sem.run_pure]
          · cases hv
        · cases hv
      · cases hc
    · cases hc
  case lookup t m i ok =>
    split at hc
    · rename_i kt et m' i' hu hm hi
      split at hc
      · rename_i kk z hkt hz
        injection hc with hc; subst hc
        simp only [opV, keyed] at hv
        split at hv
        case isFalse => cases hv
        rename_i hkey
        obtain ⟨rk, hrk⟩ := Option.isSome_iff_exists.1 hkey
        have vm := hop.opd hm
        have vi := hop.opd hi
        obtain ⟨zv, hzv, hzc⟩ := zeroAV_spec hz
        have vz := ofVal_VR (G := G) hzc
        have pairR : ∀ (b1 : Bool) (x : AV) (y : Value), VR G x y → VR G (okPair ok x b1) (if ok then .tuple #[y, .bool b1] else y) := by
          intro b1 x y hxy
          unfold okPair
          cases ok
          · exact hxy
          · exact VR.tuple' (VRs.cons hxy (VRs.cons (.bool _) (VRs.nil G)))
        have hck : ∀ b1, (Instr.checkKey b1 10000 kt (a.eval i)).run P w = .ok () w := fun b1 => r_checkKey hkt hrk vi b1 9998
        have core : ∀ (es : List (AV × AV × Nat)) (ces : Array MapEntry), EntR G es ces.toList → lookV kk z ok (ev e i') es = some v →
            (∃ j y, (Instr.findKey kt (a.eval i) ces.toList).run P w = .ok (some (j, y)) w ∧ VR G v (if ok then .tuple #[y, .bool true] else y)) ∨
            ((Instr.findKey kt (a.eval i) ces.toList).run P w = .ok none w ∧ VR G v (if ok then .tuple #[zv, .bool false] else zv)) := by
          intro es ces hes hl
          unfold lookV at hl
          split at hl
          · rename_i x hx
            injection hl with hl; subst hl
            rcases findE_idx hx with ⟨h1, _⟩ | ⟨j, k', v', b', h1, h2, h3⟩
            · cases h1
            · injection h1 with h1; subst h1
              obtain ⟨y, hy⟩ : ∃ y, ces.toList[j]? = some y := by
                have : j < es.length := by
                  rcases Nat.lt_or_ge j es.length with h' | h'
                  · exact h'
                  · rw [List.getElem?_eq_none h'] at h3; cases h3
                exact ⟨ces.toList[j]'(by rw [hes.1]; exact this), List.getElem?_eq_getElem _⟩
              have hvr := (hes.2 j k' x b' y h3 hy).2.1
              have hfk := r_findKey (w := w) hkt vi hes h2
              simp only [Option.map_some, hy, Option.getD_some] at hfk
              exact .inl ⟨j, y.val, hfk, pairR true x y.val hvr⟩
          · rename_i hx
            injection hl with hl; subst hl
            rcases findE_idx hx with ⟨_, h2⟩ | ⟨j, k', v', b', h1, h2, h3⟩
            · have hfk := r_findKey (w := w) hkt vi hes h2
              exact .inr ⟨hfk, pairR false z zv vz⟩
            · cases h1
          · cases hl
        generalize hq : ev e m' = q at *
        cases q <;> simp only [lookM] at hv <;> try (cases hv; done)
        · rename_i id
          generalize hcm : a.eval m = c at *
          cases vm with
          | map hb =>
            rename_i bb
            obtain ⟨_, _, _, ob, x, hob, hx, hr⟩ := h.obj id bb hb
            rw [hob] at hv
            cases hr with
            | cells h1 h2 => simp [lookObj] at hv
            | map h1 =>
              rename_i es ces cl
              simp only [lookObj] at hv
              have hg : (getObj bb).run P w = .ok (.map ces cl) w := by simp [getObj, Sem.run, hx]
              rcases core es ces h1 hv with ⟨j, y, h2, h3⟩ | ⟨h2, h3⟩
              · exact .val h hd (by simp only [execOp, ho, Instr.lookup, hcm, Sem.run_bind, r_und hu, Result.andThen_ok, hg, Sem.run_pure, hck, h2]) h3
              · exact .val h hd (by simp only [execOp, ho, Instr.lookup, hcm, Sem.run_bind, r_und hu, Result.andThen_ok, hg, Sem.run_pure, hck, h2, r_zero hzv]) h3
        · generalize hcm : a.eval m = c at *
          cases vm with
          | nilmap =>
            rcases core [] #[] ⟨rfl, by simp⟩ hv with ⟨j, y, h2, h3⟩ | ⟨h2, h3⟩
            · exact .val h hd (by simp only [execOp, ho, Instr.lookup, hcm, Sem.run_bind, r_und hu, Result.andThen_ok, Sem.run_pure, hck, h2]) h3
            · exact .val h hd (by simp only [execOp, ho, Instr.lookup, hcm, Sem.run_bind, r_und hu, Result.andThen_ok, Sem.run_pure, hck, h2, r_zero hzv]) h3
      · cases hc
    · cases hc
  case mapUpdate t m i z =>
    split at hc
    · rename_i kt _ _ _ _ _ _ _ _
      cases hkt : mapKeyT P kt with
      | none => rw [hkt] at hc; cases hc
      | some q => rw [hkt] at hc; injection hc with hc; subst hc; cases hk
    · cases hc
  case insert t m i z =>
    split at hc
    · rename_i kt _ _ _ _ _ _ _ _
      cases hkt : mapKeyT P kt with
      | none => rw [hkt] at hc; cases hc
      | some q => rw [hkt] at hc; injection hc with hc; subst hc; cases hk
    · cases hc
  case mapEntry t m i =>
    split at hc
    · split at hc
      · injection hc with hc; subst hc; cases hk
      · cases hc
    · cases hc
  case entryStore t m i z =>
    split at hc
    · injection hc with hc; subst hc; cases hk
    · cases hc
  case extract y n =>
    cases hy : compOpd y with
    | none => rw [hy] at hc; cases hc
    | some y' =>
      rw [hy] at hc; injection hc with hc; subst hc
      simp only [opV] at hv
      have vy := hop.opd hy
      generalize hq : ev e y' = q at *
      cases q <;> simp only [extV] at hv <;> try (cases hv; done)
      obtain ⟨cs, hcs, h1⟩ := vy.tuple_inv
      obtain ⟨c, h2, h3⟩ := h1.get hv
      refine .val h hd ?_ h3
      have : cs[n]? = some c := by simpa using h2
      simp only [execOp, ho, Instr.extract, hcs, this, Sem.run_bind, Sem.run_pure, Result.andThen_ok]
  case call c =>
    unfold compCall at hc
    split at hc
    · split at hc
      · injection hc with hc; subst hc; cases hk
      · cases hc
    · rename_i hcal
      split at hc
      · rename_i y t hargs htys
        cases hy : compOpd y with
        | none => rw [hy] at hc; cases hc
        | some y' =>
          rw [hy] at hc
          simp only [Option.bind_some] at hc
          have vy := hop.opd hy
          have ha0 : (c.args.map a.eval)[0]? = some (a.eval y) := by
            have : c.args = #[y] := by apply Array.ext'; rw [hargs]
            rw [this]; simp
          have ht0 : c.argTypes[0]? = some t := by
            have : c.argTypes = #[t] := by apply Array.ext'; rw [htys]
            rw [this]; simp
          have run : ∀ cv, (Builtin.len_ c.argTypes o.type (c.args.map a.eval)).run P w = .ok cv w → (execOp a.eval o).run P w = .ok (.value cv) w := by
            intro cv h1
            simp only [execOp, ho, resolve, hcal, Sem.run_bind, Sem.run_pure, Result.andThen_ok, invoke, builtin, h1]
          unfold compLen at hc
          split at hc
          · rename_i hu
            injection hc with hc; subst hc
            simp only [opV] at hv
            generalize hq : ev e y' = q at *
            generalize hcy : a.eval y = cy at *
            have fin : ∀ n : Nat, v = .int .i64 n → (∃ bs : ByteArray, cy = .string bs ∧ bs.size = n) → OpOK P B w0 G s w o a none v s := by
              rintro n rfl ⟨bs, hb, hn⟩
              refine .val h hd (cv := .int .i64 n) (run _ ?_) (.int _ _)
              simp only [Builtin.len_, ht0, ha0, hb, Sem.run_bind, r_und hu, Result.andThen_ok, goInt, Sem.run_pure, hn]
            cases q <;> simp only [lenV] at hv <;> try (first | (cases hv; done) | (simp at hv; done))
            · simp only [if_true] at hv; injection hv with hv; exact fin _ hv.symm ⟨_, vy.str_inv, by simp [ByteArray.size]⟩
          · rename_i el hu
            injection hc with hc; subst hc
            simp only [opV] at hv
            generalize hq : ev e y' = q at *
            generalize hcy : a.eval y = cy at *
            have fin : ∀ n : Nat, v = .int .i64 n → (∃ A cap, cy = .slice A n cap) → OpOK P B w0 G s w o a none v s := by
              rintro n rfl ⟨A, cap, hb⟩
              refine .val h hd (cv := .int .i64 n) (run _ ?_) (.int _ _)
              simp only [Builtin.len_, ht0, ha0, hb, Sem.run_bind, r_und hu, Result.andThen_ok, goInt, Sem.run_pure]
            cases q <;> simp only [lenV, Bool.false_eq_true, if_false] at hv <;> try (cases hv; done)
            · injection hv with hv
              cases vy with
              | slice sz cv e0 h1 h2 h3 h4 h5 => exact fin _ hv.symm ⟨_, _, by rw [e0]⟩
            · injection hv with hv
              cases vy with
              | mslice hb hoff hle => exact fin _ hv.symm ⟨_, _, rfl⟩
          · rename_i kt et hu
            injection hc with hc; subst hc
            simp only [opV] at hv
            generalize hq : ev e y' = q at *
            generalize hcy : a.eval y = cy at *
            cases q <;> simp only [lenMapV] at hv <;> try (cases hv; done)
            · rename_i id
              cases vy with
              | map hb =>
                rename_i bb
                obtain ⟨_, _, _, ob, x, hob, hx, hr⟩ := h.obj id bb hb
                rw [hob] at hv
                cases hr with
                | cells h1 h2 => cases hv
                | map h1 =>
                  rename_i es ces cl
                  injection hv with hv; subst hv
                  refine .val h hd (cv := .int .i64 es.length) (run _ ?_) (.int _ _)
                  have hg : (getObj bb).run P w = .ok (.map ces cl) w := by simp [getObj, Sem.run, hx]
                  have hl := h1.1; simp only [Array.length_toList] at hl
                  simp only [Builtin.len_, ht0, ha0, Sem.run_bind, r_und hu, Result.andThen_ok, goInt, Sem.run_pure, hg, hl]
            · injection hv with hv; subst hv
              cases vy with
              | nilmap =>
                refine .val h hd (cv := .int .i64 0) (run _ ?_) (.int _ _)
                simp only [Builtin.len_, ht0, ha0, Sem.run_bind, r_und hu, Result.andThen_ok, goInt, Sem.run_pure]
          · rename_i n el hu
            injection hc with hc; subst hc
            simp only [opV, ev] at hv
            injection hv with hv; subst hv
            refine .val h hd (cv := .int .i64 n) (run _ ?_) (.int _ _)
            simp only [Builtin.len_, ht0, ha0, Sem.run_bind, r_und hu, Result.andThen_ok, goInt]
            cases a.eval y <;> rfl
          · cases hc
      · cases hc
    · split at hc
      · split at hc
        · unfold compAppend at hc
          split at hc
          · cases hc
          · split at hc
            · split at hc
              · injection hc with hc; subst hc; cases hk
              · cases hc
            · cases hc
          · cases hc
        · cases hc
      · cases hc
    · rename_i hcal
      split at hc
      · rename_i y z hargs
        split at hc
        · rename_i y' z' hy hz
          injection hc with hc; subst hc
          simp only [opV] at hv
          have vy := hop.opd hy
          have vz := hop.opd hz
          have hl : (c.args.map a.eval).toList = [a.eval y, a.eval z] := by rw [Array.toList_map, hargs]; rfl
          have run : ∀ cv, (Builtin.max_ c.argTypes o.type (c.args.map a.eval)).run P w = .ok cv w → (execOp a.eval o).run P w = .ok (.value cv) w := by
            intro cv h1
            simp only [execOp, ho, resolve, hcal, Sem.run_bind, Sem.run_pure, Result.andThen_ok, invoke, builtin, h1]
          unfold mxV at hv
          split at hv
          · rename_i kk n kk' m hq1 hq2
            injection hv with hv; subst hv
            rw [hq1] at vy; rw [hq2] at vz
            refine .val h hd (cv := .int kk (if m > n then m else n)) (run _ ?_) (by simpa using VR.int (G := G) kk (if m > n then m else n))
            simp only [Builtin.max_]; rw [hl]; simp [vy.int_inv, vz.int_inv, Builtin.max2]
          · cases hv
        · cases hc
      · cases hc
    · rename_i hcal
      split at hc
      · rename_i y z hargs
        split at hc
        · rename_i y' z' hy hz
          injection hc with hc; subst hc
          simp only [opV] at hv
          have vy := hop.opd hy
          have vz := hop.opd hz
          have hl : (c.args.map a.eval).toList = [a.eval y, a.eval z] := by rw [Array.toList_map, hargs]; rfl
          have run : ∀ cv, (Builtin.min_ c.argTypes o.type (c.args.map a.eval)).run P w = .ok cv w → (execOp a.eval o).run P w = .ok (.value cv) w := by
            intro cv h1
            simp only [execOp, ho, resolve, hcal, Sem.run_bind, Sem.run_pure, Result.andThen_ok, invoke, builtin, h1]
          unfold mxV at hv
          split at hv
          · rename_i kk n kk' m hq1 hq2
            injection hv with hv; subst hv
            rw [hq1] at vy; rw [hq2] at vz
            refine .val h hd (cv := .int kk (if m < n then m else n)) (run _ ?_) (by simpa using VR.int (G := G) kk (if m < n then m else n))
            simp only [Builtin.min_]; rw [hl]; simp [vy.int_inv, vz.int_inv, Builtin.min2]
          · cases hv
        · cases hc
      · cases hc
    · cases hc
  case defer c =>
    split at hc
    · split at hc
      · injection hc with hc; subst hc; cases hk
      · cases hc
    · cases hc

end
end Go.Proofs.YtggdpckdlcngpaaDoor.Abs
