/- Each operation that leaves the state alone. Operations that turn the state. append, and all operations that turn the state. Regions and code: what the model does is what the abstract machine says. Regions: in the order of the text, and in any order. Regions in the order of the text. -/
import Derived.Test.YtdohdncgjendkaaDoorEA
set_option linter.unusedVariables false
set_option linter.unusedSimpArgs false
namespace Go.Proofs.YtdohdncgjendkaaDoor.Abs
open Go.RowKit
/-- The object of its own that an operation makes. -/
def AOp.ownId (b : Nat) : AOp → Option Nat
 | .alloc k _ => some (b + k)
 | .box k _ => some (b + k)
 | .mkmap k => some (b + k)
 | .append k _ _ _ _ => some (b + k)
 | _ => none
section
variable {P : Program} {B : Nat} {w0 : World} {G : Gh} {s : ASt} {w : World}
theorem mapM_run {α β : Type} (f : α → Sem β) (g : α → β) (w : World) (hf : ∀ x, (f x).run P w = .ok (g x) w) : ∀ (l : List α), (l.mapM f).run P w = .ok (l.map g) w
 | [] => by simp
 | x :: l => by simp [List.mapM_cons, hf, mapM_run f g w hf l]
theorem mapM_run' {α β : Type} (f : α → Sem β) (g : α → β) (w : World) : ∀ (l : List α), (∀ x ∈ l, (f x).run P w = .ok (g x) w) → (l.mapM f).run P w = .ok (l.map g) w
 | [], _ => by simp
 | x :: l, hf => by simp [List.mapM_cons, hf x (List.mem_cons_self ..), mapM_run' f g w l (fun y hy => hf y (List.mem_cons_of_mem _ hy))]
theorem structParts_spec {fs : Array Field} : ∀ (xs : List (Nat × Operand)) (ps : List (Nat × Nat × AOpd)), structParts P fs xs = some ps → ps.length = xs.length ∧ ∀ (j : Nat) (i : Nat) (x : Operand) (off sz : Nat) (y : AOpd), xs[j]? = some (i, x) → ps[j]? = some (off, sz, y) →
  (∃ f, fs[i]? = some f ∧ f.offset = off ∧ sizeT P f.type = some sz) ∧ compOpd x = some y
 | [], ps, h => by simp only [structParts] at h; injection h with h; subst h; simp
 | (i, x) :: xs, ps, h => by
  simp only [structParts] at h
  split at h
  ·rename_i f hf
   split at h
   ·rename_i sz y r hs hy hr
    injection h with h; subst h
    obtain ⟨h1, h2⟩ := structParts_spec xs r hr
    refine ⟨by simp [h1], fun j i' x' off sz' y' hj hp => ?_⟩
    cases j with
    | zero =>
     simp at hj hp
     obtain ⟨rfl, rfl⟩ := hj
     obtain ⟨rfl, rfl, rfl⟩ := hp
     exact ⟨⟨f, hf, rfl, hs⟩, hy⟩
    | succ j => exact h2 j i' x' off sz' y' (by simpa using hj) (by simpa using hp)
   ·cases h
  ·cases h
theorem arrParts_spec {sz0 : Nat} : ∀ (xs : List (Nat × Operand)) (ps : List (Nat × Nat × AOpd)), arrParts sz0 xs = some ps → ps.length = xs.length ∧ ∀ (j : Nat) (i : Nat) (x : Operand) (off sz : Nat) (y : AOpd), xs[j]? = some (i, x) → ps[j]? = some (off, sz, y) →
  some (i * sz0, sz0) = some (off, sz) ∧ compOpd x = some y
 | [], ps, h => by simp only [arrParts] at h; injection h with h; subst h; simp
 | (i, x) :: xs, ps, h => by
  simp only [arrParts] at h
  split at h
  ·rename_i y r hy hr
   injection h with h; subst h
   obtain ⟨h1, h2⟩ := arrParts_spec xs r hr
   refine ⟨by simp [h1], fun j i' x' off sz' y' hj hp => ?_⟩
   cases j with
   | zero =>
    simp at hj hp
    obtain ⟨rfl, rfl⟩ := hj
    obtain ⟨rfl, rfl, rfl⟩ := hp
    exact ⟨rfl, hy⟩
   | succ j => exact h2 j i' x' off sz' y' (by simpa using hj) (by simpa using hp)
  ·cases h
theorem zeroCs_spec {t : TypeId} {z : List AV} (h : zeroCs P t = some z) : ∃ v, zeroVal P t = some v ∧ ofCells v.cells.toList = some z := by
 unfold zeroCs at h
 cases hz : zeroVal P t with
 | none => rw [hz] at h; cases h
 | some v => rw [hz] at h; exact ⟨v, rfl, h⟩
theorem zeroAV_spec {t : TypeId} {z : AV} (h : zeroAV P t = some z) : ∃ v, zeroVal P t = some v ∧ ofVal v = some z := by
 unfold zeroAV at h
 cases hz : zeroVal P t with
 | none => rw [hz] at h; cases h
 | some v => rw [hz] at h; exact ⟨v, rfl, h⟩
theorem alloc_sound (h : Sim B w0 G s w) {a : Act} {o : Oper} {t : TypeId} (ho : o.op = .alloc t) {z : List AV} (hz : zeroCs P t = some z) {n : Nat} (hn : n < s.ctr) (hf : G.Fresh n) (hh : s.heap n = some (.cells z))
  (hd : DfrR G s.dfr a.defers) : OpOK P B w0 G s w o a (some n) (.ptr n 0) s := by
 obtain ⟨v, hv, hc⟩ := zeroCs_spec hz
 obtain ⟨h1, h2⟩ := ofCells_VRs (G := G) hc
 obtain ⟨G', hle, hsim, hρ, hρ', hI⟩ := h.fresh n hn hf.1 (.cells z) (.cells v.cells t (0, 0)) hh (.cells h1 h2)
 refine ⟨.pointer (some ⟨w.heap.size, 0, none⟩), _, G', a.defers, fun next Q hq => ?_, .ptr hρ, hle, hsim, hd.mono hle, fun i _ hi hf' => ⟨?_, by rw [hI]; exact hf'.2⟩⟩
 ·have : (execOp a.eval o).run P w = .ok (.value (.pointer (some ⟨w.heap.size, 0, none⟩))) { w with heap := w.heap.push (.cells v.cells t (0, 0)) } := by
   simp [execOp, ho, Instr.alloc, r_zero hv, newVar, newRow]
  rw [this]; exact hq
 ·rw [hρ' i (by rintro rfl; exact hi rfl)]; exact hf'.1
theorem bytesV_sound : ∀ {l : List AV} {r : List UInt8}, bytesV l = some r → ∀ {c : List Value}, VRs G l c → ∃ ns : List Int, c = ns.map (Value.int .u8) ∧ r = ns.map fun n => UInt8.ofNat n.toNat
 | [], r, h, c, hc => by simp only [bytesV] at h; injection h with h; subst h; exact ⟨[], hc.nil_inv, rfl⟩
 | x :: l, r, h, c, hc => by
  simp only [bytesV] at h
  split at h
  ·rename_i b q hb hq
   injection h with h; subst h
   obtain ⟨y, c', rfl, hv, hc'⟩ := hc.cons_inv
   obtain ⟨ns, h1, h2⟩ := bytesV_sound hq hc'
   unfold byteOfV at hb
   split at hb
   ·rename_i n
    injection hb with hb; subst hb
    exact ⟨n :: ns, by rw [hv.int_inv, h1]; rfl, by rw [h2]; rfl⟩
   ·cases hb
  ·cases h
theorem r_bytesToString (ad : Addr) (cap : Nat) (ns : List Int) (n : Nat) (hn : ns.length = n) (hm : ∀ j c, (ns.map (Value.int .u8))[j]? = some c → w.cell? (ad.add j) = some c) :
  (Conv.bytesToString (.slice (some ad) n cap)).run P w = .ok (.string ⟨(ns.map fun n => UInt8.ofNat n.toNat).toArray⟩) w := by
 have h1 := run_loadCells_list (P := P) w ad (ns.map (Value.int .u8)) hm
 rw [List.length_map, hn] at h1
 have key : ∀ (f : Value → ByteArray → Sem (ForInStep ByteArray)) (hf : ∀ n s, f (.int .u8 n) s = pure (.yield (s.push (UInt8.ofNat n.toNat)))) (ns : List Int) (acc : List UInt8),
   (forIn (ns.map (Value.int .u8)) (⟨acc.toArray⟩ : ByteArray) f : Sem ByteArray).run P w = .ok ⟨(acc ++ ns.map fun n => UInt8.ofNat n.toNat).toArray⟩ w := by
  intro f hf ns
  induction ns with
  | nil => intro acc; simp
  | cons n ns ih =>
   intro acc
   rw [List.map_cons, List.forIn_cons, hf]
   simp only [Sem.run_bind, Sem.run_pure, Result.andThen_ok]
   have := ih (acc ++ [UInt8.ofNat n.toNat])
   simp only [List.append_assoc, List.singleton_append] at this
   rw [List.map_cons, ← this]
   congr 2
   simp [ByteArray.push]
 simp only [Conv.bytesToString, Sem.run_bind, h1, Result.andThen_ok]
 have e0 : (ByteArray.empty) = (⟨([] : List UInt8).toArray⟩ : ByteArray) := rfl
 rw [← Array.forIn_toList, e0, key _ (fun _ _ => rfl) ns []]
 simp
theorem binOp_eq {t : TypeId} {a b : Value} (h : noNum a) : (binOp .eql t a b).run P w = ((Op.equal t a b).run P w).andThen (fun r w' => .ok (.bool r) w') ∧
  (binOp .neq t a b).run P w = ((Op.equal t a b).run P w).andThen (fun r w' => .ok (.bool (!r)) w') := by
 cases a <;> first
  | (exact h.elim)
  | (constructor <;> (simp only [binOp]; simp))
/-- Operations that leave the state alone. -/
theorem opV_sound (h : Sim B w0 G s w) {e : AEnv} {a : Act} (hop : OpdR G e a) (hd : DfrR G s.dfr a.defers) {o : Oper} {k b : Nat} {x : AOp} (hc : compOp P k o.op = some x) (hk : x.kd = .v) {v : AV} (hv : opV (ev e) b s.heap x = some v)
  (hown : ∀ n, x.ownId b = some n → n < s.ctr ∧ G.Fresh n) : OpOK P B w0 G s w o a (x.ownId b) v s := by
 cases ho : o.op <;> rw [ho] at hc <;> simp only [compOp] at hc <;> try (cases hc; done)
 case move y =>
  cases hy : compOpd y with
  | none => rw [hy] at hc; cases hc
  | some y' =>
   rw [hy] at hc; injection hc with hc; subst hc
   simp only [opV] at hv; injection hv with hv; subst hv
   exact .val h hd (by simp [execOp, ho]) (hop.opd hy)
 case assign y =>
  cases hy : compOpd y with
  | none => rw [hy] at hc; cases hc
  | some y' =>
   rw [hy] at hc; injection hc with hc; subst hc
   simp only [opV] at hv; injection hv with hv; subst hv
   exact .val h hd (by simp [execOp, ho]) (hop.opd hy)
 case pick c y z =>
  split at hc
  ·rename_i c' y' z' h1 h2 h3
   injection hc with hc; subst hc
   simp only [opV] at hv
   unfold pickV at hv
   split at hv
   ·rename_i q hq
    injection hv with hv; subst hv
    have hcv := hop.opd h1
    rw [hq] at hcv
    refine .val h hd (cv := if q then a.eval y else a.eval z) (by simp [execOp, ho, hcv.bool_inv, asBool]) ?_
    cases q
    ·exact hop.opd h3
    ·exact hop.opd h2
   ·cases hv
  ·cases hc
 case alloc t =>
  split at hc
  ·rename_i z hz
   injection hc with hc; subst hc
   simp only [opV] at hv
   split at hv
   ·rename_i hh
    injection hv with hv; subst hv
    obtain ⟨hn, hf⟩ := hown (b + k) rfl
    exact alloc_sound h ho hz hn hf hh hd
   ·cases hv
  ·cases hc
 case box t y =>
  split at hc
  ·injection hc with hc; subst hc; cases hk
  ·cases hc
 case build t parts =>
  split at hc
  ·rename_i fs z hu hz
   split at hc
   ·rename_i hall
    cases hp : structParts P fs parts.toList with
    | none => rw [hp] at hc; cases hc
    | some ps =>
     rw [hp] at hc; injection hc with hc; subst hc
     simp only [opV] at hv
     cases hfv : fillV (ev e) z ps with
     | none => rw [hfv] at hv; cases hv
     | some l =>
      rw [hfv] at hv; injection hv with hv; subst hv
      obtain ⟨zv, hzv, hzc⟩ := zeroCs_spec hz
      obtain ⟨h1, h2⟩ := ofCells_VRs (G := G) hzc
      obtain ⟨h3, h4⟩ := structParts_spec parts.toList ps hp
      have hm : (fs.mapM fun (f : Field) => do pure (f.offset, ← sizeOf f.type)).run P w = .ok (fs.map fun (f : Field) => (f.offset, (sizeT P f.type).getD 0)) w := by
       rw [Array.mapM_eq_mapM_toList]
       rw [Sem.run_map, mapM_run' _ (fun (f : Field) => (f.offset, (sizeT P f.type).getD 0)) w fs.toList (fun f hf => by
        have := List.all_eq_true.1 hall f hf
        obtain ⟨n, hn⟩ := Option.isSome_iff_exists.1 this
        simp [r_size hn, hn])]
       simp only [Result.andThen_ok]
       congr 1
       apply Array.ext'
       simp
      obtain ⟨cs', h5, h6, h7⟩ := fill_VR hop (fun i => (fs.map fun (f : Field) => (f.offset, (sizeT P f.type).getD 0))[i]?) parts.toList ps z l zv.cells ⟨h3, fun j i x off sz y hj hp' => by
       obtain ⟨⟨f, hf, h8, h9⟩, h10⟩ := h4 j i x off sz y hj hp'
       exact ⟨by simp [hf, h8, h9], h10⟩⟩ hfv h1 h2
      have h5' : Instr.fill (fun i => (fs.map fun (f : Field) => (f.offset, (sizeT P f.type).getD 0))[i]?) zv.cells (Array.map (fun (x : Nat × Operand) => match x with | (i, x) => (i, a.eval x)) parts).toList = some cs' := by
       rw [Array.toList_map]; exact h5
      refine .val h hd (cv := .agg cs') ?_ (VR.agg' h6 h7)
      simp only [execOp, ho, Instr.build, Sem.run_bind, r_zero hzv, r_und hu, Result.andThen_ok, hm]
      rw [h5']
      simp
   ·cases hc
  ·rename_i n el z hu hz
   split at hc
   ·rename_i sz hsz
    cases hp : arrParts sz parts.toList with
    | none => rw [hp] at hc; cases hc
    | some ps =>
     rw [hp] at hc; injection hc with hc; subst hc
     simp only [opV] at hv
     cases hfv : fillV (ev e) z ps with
     | none => rw [hfv] at hv; cases hv
     | some l =>
      rw [hfv] at hv; injection hv with hv; subst hv
      obtain ⟨zv, hzv, hzc⟩ := zeroCs_spec hz
      obtain ⟨h1, h2⟩ := ofCells_VRs (G := G) hzc
      obtain ⟨h3, h4⟩ := arrParts_spec parts.toList ps hp
      obtain ⟨cs', h5, h6, h7⟩ := fill_VR hop (fun i => some (i * sz, sz)) parts.toList ps z l zv.cells ⟨h3, h4⟩ hfv h1 h2
      have h5' : Instr.fill (fun i => some (i * sz, sz)) zv.cells (Array.map (fun (x : Nat × Operand) => match x with | (i, x) => (i, a.eval x)) parts).toList = some cs' := by
       rw [Array.toList_map]; exact h5
      refine .val h hd (cv := .agg cs') ?_ (VR.agg' h6 h7)
      simp only [execOp, ho, Instr.build, Sem.run_bind, r_zero hzv, r_und hu, r_size hsz, Result.andThen_ok]
      rw [h5']
      simp
   ·cases hc
  ·cases hc
 case buildSlice t len parts =>
  split at hc
  ·rename_i el hu
   split at hc
   ·rename_i sz z hsz hz
    split at hc
    ·rename_i hcond
     cases hp : rowParts parts.toList 0 with
     | none => rw [hp] at hc; cases hc
     | some ps =>
      rw [hp] at hc; injection hc with hc; subst hc
      simp only [opV] at hv
      cases hes : partsV (ev e) sz ps with
      | none => rw [hes] at hv; cases hv
      | some es =>
       rw [hes] at hv; injection hv with hv; subst hv
       obtain ⟨cv, w', G', hr, hvr, hle, hsim, hρ, hI⟩ := buildSlice_sound h hop hu hsz hz hcond.1 hcond.2.1 hcond.2.2.1 hcond.2.2.2 hp hes
       refine ⟨cv, w', G', a.defers, fun next Q hq => ?_, hvr, hle, hsim, hd.mono hle, .same _ _ hρ hI⟩
       have : (execOp a.eval o).run P w = .ok (.value cv) w' := by
        simp only [execOp, ho, Sem.run_bind]
        rw [hr]; rfl
       rw [this]; exact hq
    ·cases hc
   ·cases hc
  ·cases hc
 case load t y =>
  split at hc
  ·rename_i g sz y' hg hs hy
   split at hc
   ·injection hc with hc; subst hc
    simp only [opV] at hv
    obtain ⟨ad, cv, he, hr, hvr⟩ := ld_sound h hg hs hv (hop.opd hy)
    exact .val h hd (by simp [execOp, ho, Instr.loadAt, he, Instr.sureAddr, hr]) hvr
   ·cases hc
  ·cases hc
 case store t y z =>
  split at hc
  ·injection hc with hc; subst hc; cases hk
  ·cases hc
 case nilCheck y =>
  cases hy : compOpd y with
  | none => rw [hy] at hc; cases hc
  | some y' =>
   rw [hy] at hc; injection hc with hc; subst hc
   simp only [opV] at hv
   have hyv := hop.opd hy
   have e1 : v = ev e y' := by
    unfold nilChk at hv
    split at hv
    ·cases hv
    ·cases hv
    ·injection hv with hv; exact hv.symm
   subst e1
   refine .val h hd (cv := a.eval y) ?_ hyv
   simp only [execOp, ho]
   generalize ev e y' = q at *
   generalize a.eval y = c at *
   cases hyv <;> first | (simp [nilChk] at hv; done) | rfl
 case binOp op t y z u =>
  split at hc
  ·rename_i y' z' hy hz
   have vy := hop.opd hy
   have vz := hop.opd hz
   have run : ∀ c r, (eqGuard op t y z (a.eval y) (a.eval z)).run P w = .ok () w → (binOp op t (a.eval y) (a.eval z)).run P w = .ok c r → (execOp a.eval o).run P w = .ok (.value c) r := by
    intro c r h1 h2
    simp [execOp, ho, h1, h2]
   have hbin : ∀ vv, binV op (ev e y') (ev e z') = some vv → ∃ c, (execOp a.eval o).run P w = .ok (.value c) w ∧ VR G vv c := by
    intro vv hvv
    obtain ⟨hform, c, h1, h2⟩ := binV_sound (w := w) (P := P) hvv vy vz t
    refine ⟨c, run c w (r_eqGuard_scalar ?_) h1, h2⟩
    rcases hform with ⟨k, n, hq⟩ | ⟨q, hq⟩ <;> rw [hq] <;> trivial
   have heq : ∀ neq r, isEq op = some neq → (Op.equal t (a.eval y) (a.eval z)).run P w = .ok r w → (eqGuard op t y z (a.eval y) (a.eval z)).run P w = .ok () w →
     noNum (a.eval y) → (execOp a.eval o).run P w = .ok (.value (.bool (neq != r))) w := by
    intro neq r hn h1 h2 h3
    refine run _ _ h2 ?_
    obtain ⟨e1, e2⟩ := binOp_eq (P := P) (w := w) (t := t) (b := a.eval z) h3
    cases op <;> simp [isEq] at hn <;> subst hn
    ·rw [e1, h1]; simp
    ·rw [e2, h1]; simp
   unfold compBin at hc
   split at hc
   ·injection hc with hc; subst hc
    simp only [opV] at hv
    obtain ⟨c, h1, h2⟩ := hbin v hv
    exact .val h hd h1 h2
   ·injection hc with hc; subst hc
    simp only [opV] at hv
    obtain ⟨c, h1, h2⟩ := hbin v hv
    exact .val h hd h1 h2
   ·rename_i hu
    cases hn : isEq op with
    | none => rw [hn] at hc; cases hc
    | some neq =>
     rw [hn] at hc; injection hc with hc; subst hc
     simp only [opV] at hv
     cases hr : nilV true (ev e y') (ev e z') with
     | none => rw [hr] at hv; cases hv
     | some r =>
      rw [hr] at hv; injection hv with hv; subst hv
      obtain ⟨h1, h2, h3⟩ := nilV_func (w := w) hu hr vy vz
      exact .val h hd (heq neq r hn h1 (r_eqGuard_scalar h2) h3) (.bool _)
   ·rename_i hu
    cases hn : isEq op with
    | none => rw [hn] at hc; cases hc
    | some neq =>
     rw [hn] at hc; injection hc with hc; subst hc
     simp only [opV] at hv
     cases hr : nilV false (ev e y') (ev e z') with
     | none => rw [hr] at hv; cases hv
     | some r =>
      rw [hr] at hv; injection hv with hv; subst hv
      obtain ⟨h1, h2, h3⟩ := nilV_ptr (w := w) hu hr vy vz
      exact .val h hd (heq neq r hn h1 (r_eqGuard_scalar h2) h3) (.bool _)
   ·rename_i hni hns hnf hnp
    split at hc
    ·rename_i neq kt hn hkt
     split at hc
     ·cases hc
     ·rename_i hguard
      injection hc with hc; subst hc
      simp only [opV] at hv
      cases hr : eqKey kt (ev e y') (ev e z') with
      | none => rw [hr] at hv; cases hv
      | some r =>
       rw [hr] at hv; injection hv with hv; subst hv
       have h1 := key_sound (w := w) hkt hr vy vz
       have hform : (∃ p, ev e y' = .bool p) ∨ ∃ l m, ev e y' = .agg l ∧ ev e z' = .agg m := by
        unfold keyT at hkt
        split at hkt
        ·injection hkt with hkt; subst hkt
         generalize ev e y' = q at *
         cases q <;> simp [eqKey, eqT] at hr
         exact .inl ⟨_, rfl⟩
        ·rename_i k hu; exact absurd hu (hni k)
        ·rename_i hu; exact absurd hu hns
        ·split at hkt
         ·split at hkt
          ·injection hkt with hkt; subst hkt
           generalize ev e y' = q at *
           generalize ev e z' = q' at *
           cases q <;> cases q' <;> simp [eqKey] at hr
           exact .inr ⟨_, _, rfl, rfl⟩
          ·cases hkt
         ·cases hkt
        ·split at hkt
         ·split at hkt
          ·injection hkt with hkt; subst hkt
           generalize ev e y' = q at *
           generalize ev e z' = q' at *
           cases q <;> cases q' <;> simp [eqKey] at hr
           exact .inr ⟨_, _, rfl, rfl⟩
          ·cases hkt
         ·cases hkt
        ·cases hkt
       rcases hform with ⟨p, hp⟩ | ⟨l, m, hl, hm⟩
       ·rw [hp] at vy
        have e1 := vy.bool_inv
        refine .val h hd (heq neq r hn h1 (r_eqGuard_scalar (by rw [e1]; trivial)) (by rw [e1]; trivial)) (.bool _)
       ·rw [hl] at vy; rw [hm] at vz
        obtain ⟨xs, e1, _, _⟩ := vy.agg_inv
        obtain ⟨ys, e2, _, _⟩ := vz.agg_inv
        refine .val h hd (heq neq r hn h1 ?_ (by rw [e1]; trivial)) (.bool _)
        rw [e1, e2]
        exact run_eqGuard_agg w op t y z xs ys (by simpa using hguard)
    ·cases hc
  ·cases hc
 case unOp op t y =>
  cases hy : compOpd y with
  | none => rw [hy] at hc; cases hc
  | some y' =>
   rw [hy] at hc; injection hc with hc; subst hc
   simp only [opV] at hv
   have vy := hop.opd hy
   generalize hq : ev e y' = q at *
   cases q <;> simp [unV] at hv
   ·rename_i p
    cases op <;> simp at hv
    subst hv
    exact .val h hd (cv := .bool (!p)) (by simp [execOp, ho, vy.bool_inv, Op.unary]) (.bool _)
   ·rename_i kk n
    cases op <;> simp at hv
    subst hv
    exact .val h hd (cv := .int kk (kk.wrap (-n))) (by simp [execOp, ho, vy.int_inv, Op.unary, Op.intArith]) (.int _ _)
 case convert src dst y =>
  cases hy : compOpd y with
  | none => rw [hy] at hc; cases hc
  | some y' =>
   rw [hy] at hc
   simp only [Option.bind_some] at hc
   have vy := hop.opd hy
   unfold compConv at hc
   split at hc
   ·rename_i kk k2 hu1 hu2
    injection hc with hc; subst hc
    simp only [opV] at hv
    generalize hq : ev e y' = q at *
    cases q <;> simp at hv
    subst hv
    exact .val h hd (by simp [execOp, ho, convert, r_und hu1, r_und hu2, vy.int_inv, Conv.intToInt]) (.int _ _)
   ·rename_i kk hu1 hu2
    injection hc with hc; subst hc
    simp only [opV] at hv
    generalize hq : ev e y' = q at *
    cases q <;> simp at hv
    subst hv
    rename_i n
    exact .val h hd (cv := .string (Utf8.encode n)) (by simp [execOp, ho, convert, r_und hu1, r_und hu2, vy.int_inv, Conv.intToString]) (by
     have : (⟨(Utf8.encode n).data.toList.toArray⟩ : ByteArray) = Utf8.encode n := by simp
     rw [← this]; simpa using VR.str (G := G) (Utf8.encode n).data.toList)
   ·rename_i hu1 hu2
    injection hc with hc; subst hc
    simp only [opV] at hv
    generalize hq : ev e y' = q at *
    cases q <;> simp at hv
    subst hv
    exact .val h hd (by simp [execOp, ho, convert, r_und hu1, r_und hu2, vy.str_inv]) (.str _)
   ·rename_i el hu1 hu2
    split at hc
    ·rename_i hu3
     injection hc with hc; subst hc
     simp only [opV] at hv
     have fin : ∀ c r, a.eval y = c → (match c with | .slice _ _ _ => True | _ => False) → (Conv.bytesToString c).run P w = .ok (.string ⟨r.toArray⟩) w → v = .str r → OpOK P B w0 G s w o a none v s := by
      intro c r h1 h2 h3 h4
      subst h4
      refine .val h hd (cv := .string ⟨r.toArray⟩) ?_ (.str _)
      cases c <;> first | (exact h2.elim) | skip
      simp only [execOp, ho, h1, convert, Sem.run_bind, r_und hu1, r_und hu2, r_und hu3, Result.andThen_ok]
      rw [h3]; rfl
     generalize hq : ev e y' = q at *
     cases q <;> simp [strOfV] at hv
     ·rename_i ow es
      obtain ⟨r, hb, hv⟩ := hv
      generalize hcy : a.eval y = c at *
      cases vy with
      | slice sz cv h0 h1 h2 h3 h4 h5 =>
       rename_i A n cap
       cases es with
       | nil =>
        simp only [bytesV] at hb; injection hb with hb; subst hb
        simp only [List.length_nil] at h0; subst h0
        cases A with
        | none => exact fin _ [] rfl trivial (by simp [Conv.bytesToString]; rfl) hv.symm
        | some ad => exact fin _ [] rfl trivial (by have := r_bytesToString (P := P) (w := w) ad cap [] 0 rfl (by simp); simpa using this) hv.symm
       | cons e0 es =>
        obtain ⟨ad, hA⟩ := Option.isSome_iff_exists.1 (h3 (by simp))
        subst hA
        have hone : ∀ z ∈ e0 :: es, z.cells = [z] := by
         have : ∀ (l : List AV) (r : List UInt8), bytesV l = some r → ∀ z ∈ l, z.cells = [z] := by
          intro l
          induction l with
          | nil => intro r _ z hz; cases hz
          | cons q l ih =>
           intro r hr z hz
           simp only [bytesV] at hr
           split at hr
           ·rename_i b1 r1 hb1 hr1
            cases hz with
            | head => unfold byteOfV at hb1; split at hb1 <;> first | rfl | cases hb1
            | tail _ hz => exact ih r1 hr1 z hz
           ·cases hr
         exact this _ _ hb
        have hsz : sz = 1 := by have := (h2 e0 (by simp)).2.1; rw [hone e0 (by simp)] at this; simpa using this.symm
        subst hsz
        have hvrs : VRs G (e0 :: es) ((List.range (e0 :: es).length).map cv) := ⟨by simp, fun j x y hx hy => by
         have hj : j < (e0 :: es).length := by
          rcases Nat.lt_or_ge j (e0 :: es).length with h' | h'
          ·exact h'
          ·rw [List.getElem?_eq_none h'] at hx; cases hx
         rw [List.getElem?_map, List.getElem?_range hj] at hy
         injection hy with hy; subst hy
         have := h5 j x 0 x hx (by rw [hone x (List.mem_of_getElem? hx)]; rfl)
         simpa using this⟩
        obtain ⟨ns, hn1, hn2⟩ := bytesV_sound hb hvrs
        have hl : ns.length = (e0 :: es).length := by have := congrArg List.length hn1; simpa using this.symm
        refine fin _ r rfl trivial ?_ hv.symm
        rw [hn2]
        refine r_bytesToString ad cap ns n (by rw [hl, h0]) (fun j c hj => ?_)
        rw [← hn1] at hj
        have hj' : j < (e0 :: es).length := by
         rcases Nat.lt_or_ge j (e0 :: es).length with h' | h'
         ·exact h'
         ·rw [List.getElem?_eq_none (by simpa using h')] at hj; cases hj
        rw [List.getElem?_map, List.getElem?_range hj'] at hj
        injection hj with hj; subst hj
        exact h.comm _ _ (h4 ad rfl j (by simpa using hj'))
     ·rename_i id off len cap
      generalize hcy : a.eval y = c at *
      cases vy with
      | mslice hb hoff hle =>
       rename_i b' off'
       obtain ⟨_, _, _, ob, x, hob, hx, hr⟩ := h.obj id b' hb
       rw [hob] at hv
       cases hr with
       | map h1 => simp [bytesObj] at hv
       | cells h1 h2 =>
        rename_i l cs ty
        simp only [bytesObj] at hv
        split at hv
        ·rename_i hfit
         cases hbv : bytesV ((l.drop off).take len) with
         | none => rw [hbv] at hv; cases hv
         | some r =>
          rw [hbv] at hv
          injection hv with hv
          obtain ⟨ns, hn1, hn2⟩ := bytesV_sound hbv ((h1.drop off).take len)
          have hl : ns.length = len := by
           have := congrArg List.length hn1
           simp only [List.length_take, List.length_drop, Array.length_toList, List.length_map] at this
           have hcl := h1.1; simp only [Array.length_toList] at hcl
           omega
          refine fin _ r rfl trivial ?_ hv.symm
          rw [hn2]
          refine r_bytesToString _ cap ns len hl (fun j c hj => ?_)
          rw [← hn1] at hj
          have hj' : j < len := by
           rcases Nat.lt_or_ge j len with h' | h'
           ·exact h'
           ·rw [List.getElem?_take, if_neg (by omega)] at hj; cases hj
          rw [List.getElem?_take, if_pos hj', List.getElem?_drop] at hj
          rw [hoff (by omega), add_at]
          simp only [World.cell?, hx]
          simpa using hj
        ·cases hv
    ·cases hc
   ·cases hc
 case makeFunc fn first captured =>
  cases fn <;> simp only at hc <;> try (cases hc; done)
  rename_i f
  split at hc
  ·rename_i p q hp hq
   injection hc with hc; subst hc
   simp only [opV] at hv; injection hv with hv; subst hv
   exact .val h hd (cv := .func (.func f) (first.map a.eval) (captured.map a.eval)) (by simp [execOp, ho, Instr.makeFunc]) (VR.func' (by simpa using hop.opds hp) (by simpa using hop.opds hq))
  ·cases hc
 case makeMap t r =>
  cases r <;> simp only at hc
  ·injection hc with hc; subst hc; cases hk
  ·cases hc
 case slice t y lo hi mx =>
  cases mx <;> simp only at hc
  ·split at hc
   ·rename_i y' lo' hi' hy hlo hhi
    have vy := hop.opd hy
    unfold compSlice at hc
    split at hc
    ·rename_i hu
     injection hc with hc; subst hc
     simp only [opV] at hv
     generalize hq : ev e y' = q at *
     cases q <;> simp [slStrV] at hv
     rename_i st
     obtain ⟨l, hh, hb, hv⟩ := hv
     subst hv
     have hsz : (⟨st.toArray⟩ : ByteArray).size = st.length := by simp [ByteArray.size]
     obtain ⟨hrun, hle, hcap⟩ := r_bounds (w := w) (P := P) hop hlo hhi hb (Nat.le_refl _) (Nat.le_refl _) false
     refine .val h hd (cv := .string ⟨((st.take hh).drop l).toArray⟩) ?_ (.str _)
     simp only [execOp, ho, Instr.sliceAt, Instr.slice, vy.str_inv, Sem.run_bind, r_und hu, Result.andThen_ok, Option.map_none, Option.isSome_none, Bool.false_eq_true, if_false, hsz, hrun, Sem.run_pure]
     have e2 : (⟨st.toArray⟩ : ByteArray).extract l hh = ⟨((st.take hh).drop l).toArray⟩ := by
      apply ByteArray.ext
      simp [List.drop_take]
     rw [e2]
    ·rename_i el hu
     cases hsz : sizeT P el with
     | none => rw [hsz] at hc; cases hc
     | some sz =>
      rw [hsz] at hc; injection hc with hc; subst hc
      simp only [opV] at hv
      generalize hq : ev e y' = q at *
      cases q <;> simp [slV] at hv
      rename_i ow es
      obtain ⟨hhead, l, hh, hb, hv⟩ := hv
      subst hv
      generalize hcy : a.eval y = c at *
      cases vy with
      | slice sz' cv h0 h1 h2 h3 h4 h5 =>
       rename_i A n cap
       subst h0
       obtain ⟨hrun, hle, hcap⟩ := r_bounds (w := w) (P := P) hop hlo hhi hb h1.le h1.le true
       have hln : ((es.take hh).drop l).length = hh - l := by simp; omega
       refine .val h hd (cv := .slice (if cap = l then A else A.map (·.add (l * sz))) (hh - l) (cap - l)) ?_ ?_
       ·simp only [execOp, ho, Instr.sliceAt, Instr.slice, hcy, Sem.run_bind, r_und hu, Result.andThen_ok, Option.map_none, hrun, r_size hsz, Sem.run_pure]
       ·refine .slice sz' (fun j => cv (l * sz' + j)) hln.symm ?_ (fun z hz => h2 z (List.mem_of_mem_take (List.mem_of_mem_drop hz))) (fun hpos => ?_) (fun ad ha j hj => ?_) (fun i z j x hi hj => ?_)
        ·have hcl := h1.le
         cases ow with
         | full =>
          simp only [cutOwn]
          split
          ·rename_i e1; subst e1; have : cap = es.length := h1; simp only [SlOK]; omega
          ·simp only [SlOK]; omega
         | foreign => simp only [cutOwn, SlOK]; omega
         | own id =>
          simp only [cutOwn]
          split
          ·rename_i e1
           obtain ⟨e1, e2⟩ := e1
           subst e1; subst e2
           obtain ⟨h6, bb, hA, hI⟩ := h1
           refine ⟨by omega, bb, ?_, by simpa using hI⟩
           subst hA
           simp [Addr.add]
          ·simp only [SlOK]; omega
        ·rw [hln] at hpos
         have hA := h3 (by omega)
         split
         ·exact hA
         ·simpa using hA
        ·rw [hln] at hj
         have hpos : 0 < hh - l := by
          rcases Nat.eq_zero_or_pos (hh - l) with h' | h'
          ·rw [h'] at hj; omega
          ·exact h'
         have hcl := h1.le
         rw [if_neg (by omega)] at ha
         obtain ⟨ad0, hA⟩ := Option.isSome_iff_exists.1 (h3 (by omega))
         subst hA
         simp only [Option.map_some] at ha; injection ha with ha; subst ha
         have hss : sz' = sz := by
          cases es with
          | nil => simp at hcap; omega
          | cons e0 es => have h7 := (h2 e0 (by simp)).2.1; simp only [headSz, beq_iff_eq] at hhead; omega
         subst hss
         rw [add_add]
         refine h4 ad0 rfl (l * sz' + j) ?_
         have h8 : (l + (hh - l)) * sz' ≤ es.length * sz' := Nat.mul_le_mul_right _ (by omega)
         rw [Nat.add_mul] at h8
         omega
        ·rw [List.getElem?_drop, List.getElem?_take] at hi
         split at hi
         ·have := h5 (l + i) z j x hi hj
          rwa [Nat.add_mul, Nat.add_assoc] at this
         ·cases hi
    ·rename_i n el hu
     cases hsz : sizeT P el with
     | none => rw [hsz] at hc; cases hc
     | some sz =>
      rw [hsz] at hc; injection hc with hc; subst hc
      simp only [opV] at hv
      generalize hq : ev e y' = q at *
      cases q <;> simp [slArrV] at hv
      rename_i id off
      obtain ⟨l, hh, hb, hv⟩ := hv
      subst hv
      generalize hcy : a.eval y = c at *
      cases vy with
      | ptr hb' =>
       rename_i b'
       obtain ⟨hrun, hle, hcap⟩ := r_bounds (w := w) (P := P) hop hlo hhi hb (Nat.le_refl _) (Nat.le_refl _) false
       refine .val h hd (cv := .slice (some ⟨b', if n = l then off else off + l * sz, none⟩) (hh - l) (n - l)) ?_ (.mslice hb' (fun hne => if_neg (by omega)) (by omega))
       simp only [execOp, ho, Instr.sliceAt, hcy, Sem.run_bind, r_und hu, Result.andThen_ok, Option.map_none, Instr.sureAddr, Sem.run_pure, hrun, r_size hsz, add_at]
       congr 3
       split <;> rfl
    ·cases hc
   ·cases hc
  ·cases hc
 case fieldAddr t y f =>
  split at hc
  ·rename_i fs y' hu hy
   split at hc
   ·rename_i fd hf
    split at hc
    ·rename_i sz hsz
     split at hc
     ·rename_i hne
      injection hc with hc; subst hc
      simp only [opV] at hv
      have vy := hop.opd hy
      have run : ∀ ad, a.eval y = .pointer (some ad) → (execOp a.eval o).run P w = .ok (.value (.pointer (some (ad.add fd.offset)))) w := by
       intro ad had
       simp [execOp, ho, Instr.fieldAt, r_und hu, hf, had, Instr.sureAddr, fieldPlace, r_size hsz, hne]
      generalize hq : ev e y' = q at *
      cases q <;> simp [fadV] at hv
      ·subst hv
       generalize hcy : a.eval y = c at *
       cases vy with
       | ptr hb => exact .val h hd (by have := run _ rfl; rw [add_at] at this; exact this) (.ptr hb)
      ·subst hv
       generalize hcy : a.eval y = c at *
       cases vy with
       | eref cv h1 h2 h3 =>
        exact .val h hd (run _ rfl) (.eref (fun j => cv (fd.offset + j)) (fun j hj => by rw [add_add]; exact h1 _ (by simp at hj; omega)) (fun j x hj => h2 _ x (by rw [List.getElem?_drop] at hj; exact hj)) (fun x hx => h3 x (List.mem_of_mem_drop hx)))
     ·cases hc
    ·cases hc
   ·cases hc
  ·cases hc
 case field t y f =>
  split at hc
  ·rename_i fs y' hu hy
   split at hc
   ·rename_i fd hf
    split at hc
    ·rename_i g sz hg hsz
     injection hc with hc; subst hc
     simp only [opV] at hv
     have vy := hop.opd hy
     generalize hq : ev e y' = q at *
     cases q <;> simp [fldV] at hv
     rename_i l
     obtain ⟨cs, hcs, h1, h2⟩ := vy.agg_inv
     rcases ldCells_VR hv (h1.drop fd.offset) (fun x hx => h2 x (List.mem_of_mem_drop hx)) with ⟨rfl, hs', hvr⟩ | ⟨rfl, c, hc0, hvr⟩
     ·refine .val h hd ?_ hvr
      simp only [execOp, ho, Instr.field, hcs, Sem.run_bind, r_und hu, Result.andThen_ok, hf, asAgg, Sem.run_pure, part, r_agg hg, if_true, r_size hsz]
      congr 3
      apply Array.ext'
      simp [List.drop_take]
     ·refine .val h hd ?_ hvr
      rw [List.getElem?_drop, Nat.add_zero] at hc0
      simp only [execOp, ho, Instr.field, hcs, Sem.run_bind, r_und hu, Result.andThen_ok, hf, asAgg, Sem.run_pure, part, r_agg hg, Bool.false_eq_true, if_false]
      have : cs[fd.offset]? = some c := by simpa using hc0
      rw [this]; rfl
    ·cases hc
   ·cases hc
  ·cases hc
 case indexAddr t y i =>
  split at hc
  ·rename_i el y' i' hu hy hi
   cases hsz : sizeT P el with
   | none => rw [hsz] at hc; cases hc
   | some sz =>
    rw [hsz] at hc; injection hc with hc; subst hc
    simp only [opV] at hv
    have vy := hop.opd hy
    have vi := hop.opd hi
    generalize hq : ev e y' = q at *
    cases q <;> simp only [idxV] at hv <;> try (cases hv; done)
    ·rename_i ow es
     split at hv
     ·rename_i n hn
      obtain ⟨kk, ii, hii, h0, h1⟩ := natOf_sound hn vi
      split at hv
      ·rename_i z hz
       split at hv
       ·rename_i hzl
        injection hv with hv; subst hv
        generalize hcy : a.eval y = c at *
        have hnl : n < es.length := by
         rcases Nat.lt_or_ge n es.length with h' | h'
         ·exact h'
         ·rw [List.getElem?_eq_none h'] at hz; cases hz
        cases vy with
        | slice sz' cv e0 h1' h2 h3 h4 h5 =>
         rename_i A n' cap
         subst e0
         obtain ⟨ad, hA⟩ := Option.isSome_iff_exists.1 (h3 (by omega))
         subst hA
         have hss : sz' = sz := by have := (h2 z (List.mem_of_getElem? hz)).2.1; omega
         subst hss
         refine .val h hd (cv := .pointer (some (ad.add (n * sz')))) ?_ (.eref (fun j => cv (n * sz' + j)) (fun j hj => ?_) (fun j x hj => h5 n z j x hz hj) (h2 z (List.mem_of_getElem? hz)).2.2)
         ·simp only [execOp, ho, Instr.indexAt, hcy, hii, asIntOf, Sem.run_bind, Sem.run_pure, Result.andThen_ok, r_und hu, Sem.run_ite]
          rw [if_pos ⟨h0, by omega⟩, r_size hsz, h1]
          rfl
         ·rw [add_add]
          refine h4 ad rfl _ ?_
          have : (n + 1) * sz' ≤ es.length * sz' := Nat.mul_le_mul_right _ hnl
          rw [Nat.succ_mul] at this; omega
       ·cases hv
      ·cases hv
     ·cases hv
    ·rename_i id off len cap
     split at hv
     ·rename_i n hn
      obtain ⟨kk, ii, hii, h0, h1⟩ := natOf_sound hn vi
      split at hv
      ·rename_i hnl
       injection hv with hv; subst hv
       generalize hcy : a.eval y = c at *
       cases vy with
       | mslice hb hoff hle =>
        rename_i b' off'
        refine .val h hd (cv := .pointer (some ⟨b', off + n * sz, none⟩)) ?_ (.ptr hb)
        simp only [execOp, ho, Instr.indexAt, hcy, hii, asIntOf, Sem.run_bind, Sem.run_pure, Result.andThen_ok, r_und hu, Sem.run_ite]
        rw [if_pos ⟨h0, by omega⟩, r_size hsz, h1, hoff (by omega)]
        simp only [Result.andThen_ok, add_at]
      ·cases hv
     ·cases hv
  ·rename_i len el y' i' hu hy hi
   cases hsz : sizeT P el with
   | none => rw [hsz] at hc; cases hc
   | some sz =>
    rw [hsz] at hc; injection hc with hc; subst hc
    simp only [opV] at hv
    have vy := hop.opd hy
    have vi := hop.opd hi
    have run : ∀ ad n, a.eval y = .pointer (some ad) → natOf (ev e i') = some n → n < len → (execOp a.eval o).run P w = .ok (.value (.pointer (some (ad.add (n * sz))))) w := by
     intro ad n had hn hnl
     obtain ⟨kk, ii, hii, h0, h1⟩ := natOf_sound hn vi
     simp only [execOp, ho, Instr.indexAt, had, hii, asIntOf, Sem.run_bind, Sem.run_pure, Result.andThen_ok, r_und hu, Sem.run_ite, Instr.sureAddr]
     rw [if_pos ⟨h0, by omega⟩, r_size hsz, h1]
     rfl
    generalize hq : ev e y' = q at *
    cases q <;> simp only [idxArrV] at hv <;> try (cases hv; done)
    ·rename_i id off
     split at hv
     ·rename_i n hn
      split at hv
      ·rename_i hnl
       injection hv with hv; subst hv
       generalize hcy : a.eval y = c at *
       cases vy with
       | ptr hb => exact .val h hd (by have := run _ n rfl hn hnl; rw [add_at] at this; exact this) (.ptr hb)
      ·cases hv
     ·cases hv
    ·rename_i cells
     split at hv
     ·rename_i n hn
      split at hv
      ·rename_i hnl
       injection hv with hv; subst hv
       generalize hcy : a.eval y = c at *
       cases vy with
       | eref cv h1 h2 h3 =>
        exact .val h hd (run _ n rfl hn hnl) (.eref (fun j => cv (n * sz + j)) (fun j hj => by rw [add_add]; exact h1 _ (by simp at hj; omega)) (fun j x hj => h2 _ x (by rw [List.getElem?_drop] at hj; exact hj)) (fun x hx => h3 x (List.mem_of_mem_drop hx)))
      ·cases hv
     ·cases hv
  ·cases hc
 case index t y i =>
  split at hc
  ·rename_i y' i' hu hy hi
   injection hc with hc; subst hc
   simp only [opV] at hv
   have vy := hop.opd hy
   have vi := hop.opd hi
   generalize hq : ev e y' = q at *
   cases q <;> simp only [strAt] at hv <;> try (cases hv; done)
   rename_i st
   split at hv
   ·rename_i n hn
    obtain ⟨kk, ii, hii, h0, h1⟩ := natOf_sound hn vi
    cases hg : st[n]? with
    | none => rw [hg] at hv; cases hv
    | some b1 =>
     rw [hg] at hv; injection hv with hv; subst hv
     refine .val h hd (cv := .int .u8 b1.toNat) ?_ (.int _ _)
     have e1 : (⟨st.toArray⟩ : ByteArray)[n]? = some b1 := by
      have hl : n < st.length := by
       rcases Nat.lt_or_ge n st.length with h' | h'
       ·exact h'
       ·rw [List.getElem?_eq_none h'] at hg; cases hg
      have hl' : n < (⟨st.toArray⟩ : ByteArray).size := by simpa [ByteArray.size] using hl
      rw [getElem?_pos (⟨st.toArray⟩ : ByteArray) n hl']
      rw [List.getElem?_eq_getElem hl] at hg
      injection hg with hg
      rw [← hg]; rfl
     simp only [execOp, ho, Instr.index, vy.str_inv, hii, asIntOf, Sem.run_bind, Sem.run_pure, Result.andThen_ok, r_und hu]
     rw [if_pos h0, h1, e1]
     rfl
   ·cases hv
  ·rename_i len el y' i' hu hy hi
   split at hc
   ·rename_i g sz hg hsz
    injection hc with hc; subst hc
    simp only [opV] at hv
    have vy := hop.opd hy
    have vi := hop.opd hi
    generalize hq : ev e y' = q at *
    cases q <;> simp only [aggAt] at hv <;> try (cases hv; done)
    rename_i l
    split at hv
    ·rename_i n hn
     obtain ⟨kk, ii, hii, h0, h1⟩ := natOf_sound hn vi
     split at hv
     ·rename_i hnl
      obtain ⟨cs, hcs, h3, h4⟩ := vy.agg_inv
      rcases ldCells_VR hv (h3.drop (n * sz)) (fun x hx => h4 x (List.mem_of_mem_drop hx)) with ⟨rfl, hs', hvr⟩ | ⟨rfl, c, hc0, hvr⟩
      ·refine .val h hd ?_ hvr
       simp only [execOp, ho, Instr.index, hcs, hii, asIntOf, Sem.run_bind, Sem.run_pure, Result.andThen_ok, r_und hu, Sem.run_ite]
       rw [if_pos ⟨h0, by omega⟩, r_size hsz, h1]
       simp only [Result.andThen_ok, part, Sem.run_bind, r_agg hg, if_true, r_size hsz, Sem.run_pure]
       congr 3
       apply Array.ext'
       simp [List.drop_take]
      ·refine .val h hd ?_ hvr
       rw [List.getElem?_drop, Nat.add_zero] at hc0
       simp only [execOp, ho, Instr.index, hcs, hii, asIntOf, Sem.run_bind, Sem.run_pure, Result.andThen_ok, r_und hu, Sem.run_ite]
       rw [if_pos ⟨h0, by omega⟩, r_size hsz, h1]
       have : cs[n * sz]? = some c := by simpa using hc0
       simp only [Result.andThen_ok, part, Sem.run_bind, r_agg hg, Bool.false_eq_true, if_false, this, Sem.run_pure]
     ·cases hv
    ·cases hv
   ·cases hc
  ·cases hc
 case lookup t m i ok =>
  split at hc
  ·rename_i kt et m' i' hu hm hi
   split at hc
   ·rename_i kk z hkt hz
    injection hc with hc; subst hc
    simp only [opV, keyed] at hv
    split at hv
    case isFalse => cases hv
    rename_i hkey
    obtain ⟨rk, hrk⟩ := Option.isSome_iff_exists.1 hkey
    have vm := hop.opd hm
    have vi := hop.opd hi
    obtain ⟨zv, hzv, hzc⟩ := zeroAV_spec hz
    have vz := ofVal_VR (G := G) hzc
    have pairR : ∀ (b1 : Bool) (x : AV) (y : Value), VR G x y → VR G (okPair ok x b1) (if ok then .tuple #[y, .bool b1] else y) := by
     intro b1 x y hxy
     unfold okPair
     cases ok
     ·exact hxy
     ·exact VR.tuple' (VRs.cons hxy (VRs.cons (.bool _) (VRs.nil G)))
    have hck : ∀ b1, (Instr.checkKey b1 10000 kt (a.eval i)).run P w = .ok () w := fun b1 => r_checkKey hkt hrk vi b1 9998
    have core : ∀ (es : List (AV × AV × Nat)) (ces : Array MapEntry), EntR G es ces.toList → lookV kk z ok (ev e i') es = some v →
      (∃ j y, (Instr.findKey kt (a.eval i) ces.toList).run P w = .ok (some (j, y)) w ∧ VR G v (if ok then .tuple #[y, .bool true] else y)) ∨
      ((Instr.findKey kt (a.eval i) ces.toList).run P w = .ok none w ∧ VR G v (if ok then .tuple #[zv, .bool false] else zv)) := by
     intro es ces hes hl
     unfold lookV at hl
     split at hl
     ·rename_i x hx
      injection hl with hl; subst hl
      rcases findE_idx hx with ⟨h1, _⟩ | ⟨j, k', v', b', h1, h2, h3⟩
      ·cases h1
      ·injection h1 with h1; subst h1
       obtain ⟨y, hy⟩ : ∃ y, ces.toList[j]? = some y := by
        have : j < es.length := by
         rcases Nat.lt_or_ge j es.length with h' | h'
         ·exact h'
         ·rw [List.getElem?_eq_none h'] at h3; cases h3
        exact ⟨ces.toList[j]'(by rw [hes.1]; exact this), List.getElem?_eq_getElem _⟩
       have hvr := (hes.2 j k' x b' y h3 hy).2.1
       have hfk := r_findKey (w := w) hkt vi hes h2
       simp only [Option.map_some, hy, Option.getD_some] at hfk
       exact .inl ⟨j, y.val, hfk, pairR true x y.val hvr⟩
     ·rename_i hx
      injection hl with hl; subst hl
      rcases findE_idx hx with ⟨_, h2⟩ | ⟨j, k', v', b', h1, h2, h3⟩
      ·have hfk := r_findKey (w := w) hkt vi hes h2
       exact .inr ⟨hfk, pairR false z zv vz⟩
      ·cases h1
     ·cases hl
    generalize hq : ev e m' = q at *
    cases q <;> simp only [lookM] at hv <;> try (cases hv; done)
    ·rename_i id
     generalize hcm : a.eval m = c at *
     cases vm with
     | map hb =>
      rename_i bb
      obtain ⟨_, _, _, ob, x, hob, hx, hr⟩ := h.obj id bb hb
      rw [hob] at hv
      cases hr with
      | cells h1 h2 => simp [lookObj] at hv
      | map h1 =>
       rename_i es ces cl
       simp only [lookObj] at hv
       have hg : (getObj bb).run P w = .ok (.map ces cl) w := by simp [getObj, Sem.run, hx]
       rcases core es ces h1 hv with ⟨j, y, h2, h3⟩ | ⟨h2, h3⟩
       ·exact .val h hd (by simp only [execOp, ho, Instr.lookup, hcm, Sem.run_bind, r_und hu, Result.andThen_ok, hg, Sem.run_pure, hck, h2]) h3
       ·exact .val h hd (by simp only [execOp, ho, Instr.lookup, hcm, Sem.run_bind, r_und hu, Result.andThen_ok, hg, Sem.run_pure, hck, h2, r_zero hzv]) h3
    ·generalize hcm : a.eval m = c at *
     cases vm with
     | nilmap =>
      rcases core [] #[] ⟨rfl, by simp⟩ hv with ⟨j, y, h2, h3⟩ | ⟨h2, h3⟩
      ·exact .val h hd (by simp only [execOp, ho, Instr.lookup, hcm, Sem.run_bind, r_und hu, Result.andThen_ok, Sem.run_pure, hck, h2]) h3
      ·exact .val h hd (by simp only [execOp, ho, Instr.lookup, hcm, Sem.run_bind, r_und hu, Result.andThen_ok, Sem.run_pure, hck, h2, r_zero hzv]) h3
   ·cases hc
  ·cases hc
 case mapUpdate t m i z =>
  split at hc
  ·rename_i kt _ _ _ _ _ _ _ _
   cases hkt : mapKeyT P kt with
   | none => rw [hkt] at hc; cases hc
   | some q => rw [hkt] at hc; injection hc with hc; subst hc; cases hk
  ·cases hc
 case insert t m i z =>
  split at hc
  ·rename_i kt _ _ _ _ _ _ _ _
   cases hkt : mapKeyT P kt with
   | none => rw [hkt] at hc; cases hc
   | some q => rw [hkt] at hc; injection hc with hc; subst hc; cases hk
  ·cases hc
 case mapEntry t m i =>
  split at hc
  ·split at hc
   ·injection hc with hc; subst hc; cases hk
   ·cases hc
  ·cases hc
 case entryStore t m i z =>
  split at hc
  ·injection hc with hc; subst hc; cases hk
  ·cases hc
 case extract y n =>
  cases hy : compOpd y with
  | none => rw [hy] at hc; cases hc
  | some y' =>
   rw [hy] at hc; injection hc with hc; subst hc
   simp only [opV] at hv
   have vy := hop.opd hy
   generalize hq : ev e y' = q at *
   cases q <;> simp only [extV] at hv <;> try (cases hv; done)
   obtain ⟨cs, hcs, h1⟩ := vy.tuple_inv
   obtain ⟨c, h2, h3⟩ := h1.get hv
   refine .val h hd ?_ h3
   have : cs[n]? = some c := by simpa using h2
   simp only [execOp, ho, Instr.extract, hcs, this, Sem.run_bind, Sem.run_pure, Result.andThen_ok]
 case call c =>
  unfold compCall at hc
  split at hc
  ·split at hc
   ·injection hc with hc; subst hc; cases hk
   ·cases hc
  ·rename_i hcal
   split at hc
   ·rename_i y t hargs htys
    cases hy : compOpd y with
    | none => rw [hy] at hc; cases hc
    | some y' =>
     rw [hy] at hc
     simp only [Option.bind_some] at hc
     have vy := hop.opd hy
     have ha0 : (c.args.map a.eval)[0]? = some (a.eval y) := by
      have : c.args = #[y] := by apply Array.ext'; rw [hargs]
      rw [this]; simp
     have ht0 : c.argTypes[0]? = some t := by
      have : c.argTypes = #[t] := by apply Array.ext'; rw [htys]
      rw [this]; simp
     have run : ∀ cv, (Builtin.len_ c.argTypes o.type (c.args.map a.eval)).run P w = .ok cv w → (execOp a.eval o).run P w = .ok (.value cv) w := by
      intro cv h1
      simp only [execOp, ho, resolve, hcal, Sem.run_bind, Sem.run_pure, Result.andThen_ok, invoke, builtin, h1]
     unfold compLen at hc
     split at hc
     ·rename_i hu
      injection hc with hc; subst hc
      simp only [opV] at hv
      generalize hq : ev e y' = q at *
      generalize hcy : a.eval y = cy at *
      have fin : ∀ n : Nat, v = .int .i64 n → (∃ bs : ByteArray, cy = .string bs ∧ bs.size = n) → OpOK P B w0 G s w o a none v s := by
       rintro n rfl ⟨bs, hb, hn⟩
       refine .val h hd (cv := .int .i64 n) (run _ ?_) (.int _ _)
       simp only [Builtin.len_, ht0, ha0, hb, Sem.run_bind, r_und hu, Result.andThen_ok, goInt, Sem.run_pure, hn]
      cases q <;> simp only [lenV] at hv <;> try (first | (cases hv; done) | (simp at hv; done))
      ·simp only [if_true] at hv; injection hv with hv; exact fin _ hv.symm ⟨_, vy.str_inv, by simp [ByteArray.size]⟩
     ·rename_i el hu
      injection hc with hc; subst hc
      simp only [opV] at hv
      generalize hq : ev e y' = q at *
      generalize hcy : a.eval y = cy at *
      have fin : ∀ n : Nat, v = .int .i64 n → (∃ A cap, cy = .slice A n cap) → OpOK P B w0 G s w o a none v s := by
       rintro n rfl ⟨A, cap, hb⟩
       refine .val h hd (cv := .int .i64 n) (run _ ?_) (.int _ _)
       simp only [Builtin.len_, ht0, ha0, hb, Sem.run_bind, r_und hu, Result.andThen_ok, goInt, Sem.run_pure]
      cases q <;> simp only [lenV, Bool.false_eq_true, if_false] at hv <;> try (cases hv; done)
      ·injection hv with hv
       cases vy with
       | slice sz cv e0 h1 h2 h3 h4 h5 => exact fin _ hv.symm ⟨_, _, by rw [e0]⟩
      ·injection hv with hv
       cases vy with
       | mslice hb hoff hle => exact fin _ hv.symm ⟨_, _, rfl⟩
     ·rename_i kt et hu
      injection hc with hc; subst hc
      simp only [opV] at hv
      generalize hq : ev e y' = q at *
      generalize hcy : a.eval y = cy at *
      cases q <;> simp only [lenMapV] at hv <;> try (cases hv; done)
      ·rename_i id
       cases vy with
       | map hb =>
        rename_i bb
        obtain ⟨_, _, _, ob, x, hob, hx, hr⟩ := h.obj id bb hb
        rw [hob] at hv
        cases hr with
        | cells h1 h2 => cases hv
        | map h1 =>
         rename_i es ces cl
         injection hv with hv; subst hv
         refine .val h hd (cv := .int .i64 es.length) (run _ ?_) (.int _ _)
         have hg : (getObj bb).run P w = .ok (.map ces cl) w := by simp [getObj, Sem.run, hx]
         have hl := h1.1; simp only [Array.length_toList] at hl
         simp only [Builtin.len_, ht0, ha0, Sem.run_bind, r_und hu, Result.andThen_ok, goInt, Sem.run_pure, hg, hl]
      ·injection hv with hv; subst hv
       cases vy with
       | nilmap =>
        refine .val h hd (cv := .int .i64 0) (run _ ?_) (.int _ _)
        simp only [Builtin.len_, ht0, ha0, Sem.run_bind, r_und hu, Result.andThen_ok, goInt, Sem.run_pure]
     ·rename_i n el hu
      injection hc with hc; subst hc
      simp only [opV, ev] at hv
      injection hv with hv; subst hv
      refine .val h hd (cv := .int .i64 n) (run _ ?_) (.int _ _)
      simp only [Builtin.len_, ht0, ha0, Sem.run_bind, r_und hu, Result.andThen_ok, goInt]
      cases a.eval y <;> rfl
     ·cases hc
   ·cases hc
  ·split at hc
   ·split at hc
    ·unfold compAppend at hc
     split at hc
     ·cases hc
     ·split at hc
      ·split at hc
       ·injection hc with hc; subst hc; cases hk
       ·cases hc
      ·cases hc
     ·cases hc
    ·cases hc
   ·cases hc
  ·rename_i hcal
   split at hc
   ·rename_i y z hargs
    split at hc
    ·rename_i y' z' hy hz
     injection hc with hc; subst hc
     simp only [opV] at hv
     have vy := hop.opd hy
     have vz := hop.opd hz
     have hl : (c.args.map a.eval).toList = [a.eval y, a.eval z] := by rw [Array.toList_map, hargs]; rfl
     have run : ∀ cv, (Builtin.max_ c.argTypes o.type (c.args.map a.eval)).run P w = .ok cv w → (execOp a.eval o).run P w = .ok (.value cv) w := by
      intro cv h1
      simp only [execOp, ho, resolve, hcal, Sem.run_bind, Sem.run_pure, Result.andThen_ok, invoke, builtin, h1]
     unfold mxV at hv
     split at hv
     ·rename_i kk n kk' m hq1 hq2
      injection hv with hv; subst hv
      rw [hq1] at vy; rw [hq2] at vz
      refine .val h hd (cv := .int kk (if m > n then m else n)) (run _ ?_) (by simpa using VR.int (G := G) kk (if m > n then m else n))
      simp only [Builtin.max_]; rw [hl]; simp [vy.int_inv, vz.int_inv, Builtin.max2]
     ·cases hv
    ·cases hc
   ·cases hc
  ·rename_i hcal
   split at hc
   ·rename_i y z hargs
    split at hc
    ·rename_i y' z' hy hz
     injection hc with hc; subst hc
     simp only [opV] at hv
     have vy := hop.opd hy
     have vz := hop.opd hz
     have hl : (c.args.map a.eval).toList = [a.eval y, a.eval z] := by rw [Array.toList_map, hargs]; rfl
     have run : ∀ cv, (Builtin.min_ c.argTypes o.type (c.args.map a.eval)).run P w = .ok cv w → (execOp a.eval o).run P w = .ok (.value cv) w := by
      intro cv h1
      simp only [execOp, ho, resolve, hcal, Sem.run_bind, Sem.run_pure, Result.andThen_ok, invoke, builtin, h1]
     unfold mxV at hv
     split at hv
     ·rename_i kk n kk' m hq1 hq2
      injection hv with hv; subst hv
      rw [hq1] at vy; rw [hq2] at vz
      refine .val h hd (cv := .int kk (if m < n then m else n)) (run _ ?_) (by simpa using VR.int (G := G) kk (if m < n then m else n))
      simp only [Builtin.min_]; rw [hl]; simp [vy.int_inv, vz.int_inv, Builtin.min2]
     ·cases hv
    ·cases hc
   ·cases hc
  ·cases hc
 case defer c =>
  split at hc
  ·split at hc
   ·injection hc with hc; subst hc; cases hk
   ·cases hc
  ·cases hc
end
section
variable {P : Program} {B : Nat} {w0 : World} {G : Gh} {s : ASt} {w : World}
theorem keep_own {G G' : Gh} {n : Nat} {i : Nat} (hρ : ∀ j, j ≠ i → G'.ρ j = G.ρ j) (hI : G'.I = G.I) : G.Keep n (some i) G' :=
 fun j _ hj hf => ⟨by rw [hρ j (by rintro rfl; exact hj rfl)]; exact hf.1, by rw [hI]; exact hf.2⟩
/-- A new block of one's own. -/
theorem new_sound (h : Sim B w0 G s w) {o : Oper} {a : Act} {i : Nat} (hi : i < s.ctr) (hf : G.Fresh i) (hd : DfrR G s.dfr a.defers) (ob : AObj) (bo : Obj) (hr : ObjR G ob bo) (cv : Value)
  (hrun : (execOp a.eval o).run P w = .ok (.value cv) { w with heap := w.heap.push bo }) {v : AV} (hv : ∀ G', G.Le G' → G'.ρ i = some w.heap.size → VR G' v cv) :
  OpOK P B w0 G s w o a (some i) v (s.set i ob) := by
 obtain ⟨G', hle, hsim, hρ, hρ', hI⟩ := (h.set_fresh hf ob).fresh i hi hf.1 ob bo (by simp [ASt.set]) hr
 exact ⟨cv, _, G', a.defers, fun next Q hq => by rw [hrun]; exact hq, hv G' hle hρ, hle, hsim, hd.mono hle, keep_own hρ' hI⟩
theorem store_sound (h : Sim B w0 G s w) {e : AEnv} {a : Act} (hop : OpdR G e a) (hd : DfrR G s.dfr a.defers) {o : Oper} {t : TypeId} {y z : Operand} (ho : o.op = .store t y z) {sz : Nat} {y' z' : AOpd} (hs : sizeT P t = some sz) (hy : compOpd y = some y') (hz : compOpd z = some z') {s' : ASt}
  (hv : stV sz s (ev e z') (ev e y') = some s') (b : Nat) : OpOK P B w0 G s w o a none udf s' := by
 have vy := hop.opd hy
 have vz := hop.opd hz
 generalize hq : ev e y' = q at *
 cases q <;> simp only [stV] at hv <;> try (cases hv; done)
 rename_i id off
 generalize hcy : a.eval y = c at *
 cases vy with
 | ptr hb =>
  rename_i bb
  obtain ⟨_, _, _, ob, x, hob, hx, hr⟩ := h.obj id bb hb
  rw [hob] at hv
  cases hr with
  | map h1 => cases hv
  | cells h1 h2 =>
   rename_i l cs ty
   simp only at hv
   split at hv
   ·rename_i hcond
    obtain ⟨hok, hlen, hfit⟩ := hcond
    injection hv with hv; subst hv
    have hcz := vz.cells_
    have hcl := h1.1; simp only [Array.length_toList] at hcl
    have hzl : (a.eval z).cells.size = sz := by have := hcz.1; simp only [Array.length_toList] at this; omega
    have hst := run_storeCells P bb off ty (a.eval z).cells.toList 0 w cs hx (by rw [Array.length_toList]; omega) (fun u hu => by
     obtain ⟨j, hj⟩ := List.getElem?_of_mem hu
     have hjl : j < (ev e z').cells.length := by
      have : j < (a.eval z).cells.toList.length := by
       rcases Nat.lt_or_ge j (a.eval z).cells.toList.length with h' | h'
       ·exact h'
       ·rw [List.getElem?_eq_none h'] at hj; cases hj
      rw [hcz.1] at this; exact this
     have hr := hcz.2 j _ u (List.getElem?_eq_getElem hjl) hj
     exact hr.one (vz.cells_ok hok _ (List.getElem_mem hjl)))
    have hsim := h.turn id bb hb (.cells (overlay l off (ev e z').cells)) (.cells (putCells cs off (a.eval z).cells.toList) ty (0, 0))
     (.cells (putCells_VRs h1 hcz (by omega)) (fun u hu => by
      unfold overlay at hu
      simp only [List.mem_append] at hu
      rcases hu with (hu | hu) | hu
      ·exact h2 u (List.mem_of_mem_take hu)
      ·exact vz.cells_ok hok u hu
      ·exact h2 u (List.mem_of_mem_drop hu)))
    refine ⟨undef, _, G, a.defers, fun next Q hq => ?_, VR.udf_, .refl G, hsim, hd, .refl G _ _⟩
    have : (execOp a.eval o).run P w = .ok .skip { w with heap := w.heap.setIfInBounds bb (.cells (putCells cs off (a.eval z).cells.toList) ty (0, 0)) } := by
     simp only [execOp, ho, Instr.storeAt, hcy, Instr.sureAddr, storeVar, Sem.run_bind, Sem.run_pure, Result.andThen_ok, r_size hs, Sem.run_ite]
     rw [if_neg (by omega)]
     rw [Nat.add_zero] at hst
     rw [hst]; rfl
    rw [this]; exact hq
   ·cases hv
theorem getObj_map {bb : Nat} {ces : Array MapEntry} {cl : Nat} (hx : w.heap[bb]? = some (.map ces cl)) : (getObj bb).run P w = .ok (.map ces cl) w := by simp [getObj, Sem.run, hx]
theorem setObj_map {bb : Nat} {ces : Array MapEntry} {cl : Nat} (hx : w.heap[bb]? = some (.map ces cl)) (ob : Obj) : (setObj bb ob).run P w = .ok () { w with heap := w.heap.setIfInBounds bb ob } := by simp [setObj, Sem.run, hx]
theorem keyThatStays_same {old new : Value} (h : Instr.sameBits 10000 old new = true) : (Instr.keyThatStays old new).run P w = .ok new w := by
 simp [Instr.keyThatStays, h]
theorem EntR.set {es : List (AV × AV × Nat)} {ces : Array MapEntry} (h : EntR G es ces.toList) (i : Nat) {k v : AV} {b : Nat} (f : MapEntry → MapEntry) (hf : ∀ y, ces[i]? = some y → VR G k (f y).key ∧ VR G v (f y).val ∧ (f y).born = b) :
  EntR G (es.set i (k, v, b)) (ces.modify i f).toList := by
 refine ⟨by simp [Array.size_modify]; have := h.1; simpa using this, fun j k' v' n y hj hy => ?_⟩
 have hy' : (ces.modify i f)[j]? = some y := by rw [← Array.getElem?_toList]; exact hy
 rw [Array.getElem?_modify] at hy'
 rw [List.getElem?_set] at hj
 by_cases e : i = j
 ·subst e
  rw [if_pos rfl] at hy' hj
  cases hc : ces[i]? with
  | none => rw [hc] at hy'; cases hy'
  | some y0 =>
   rw [hc] at hy'; injection hy' with hy'; subst hy'
   split at hj
   ·injection hj with hj; injection hj with e1 hj; injection hj with e2 e3
    subst e1; subst e2; subst e3
    exact hf y0 hc
   ·cases hj
 ·rw [if_neg e] at hy' hj
  exact h.2 j k' v' n y hj (by simpa using hy')
theorem EntR.push {es : List (AV × AV × Nat)} {ces : Array MapEntry} (h : EntR G es ces.toList) {k v : AV} {b : Nat} {y : MapEntry} (h1 : VR G k y.key) (h2 : VR G v y.val) (h3 : y.born = b) :
  EntR G (es ++ [(k, v, b)]) (ces.push y).toList := by
 have hl := h.1
 refine ⟨by simp; simpa using hl, fun j k' v' n y' hj hy => ?_⟩
 simp only [Array.toList_push] at hy
 by_cases e : j < es.length
 ·rw [List.getElem?_append_left e] at hj
  rw [List.getElem?_append_left (by omega)] at hy
  exact h.2 j k' v' n y' hj hy
 ·rw [List.getElem?_append_right (by omega)] at hj
  rw [List.getElem?_append_right (by omega), hl] at hy
  have e0 : j - es.length = 0 := by
   rcases Nat.eq_zero_or_pos (j - es.length) with h' | h'
   ·exact h'
   ·rw [List.getElem?_eq_none (by simp; omega)] at hj; cases hj
  rw [e0] at hj hy
  simp at hj hy
  obtain ⟨rfl, rfl, rfl⟩ := hj
  subst hy
  exact ⟨h1, h2, h3⟩
theorem EntR.at_ {es : List (AV × AV × Nat)} {ces : Array MapEntry} (h : EntR G es ces.toList) {i : Nat} {k v : AV} {b : Nat} (hi : es[i]? = some (k, v, b)) : ∃ y, ces[i]? = some y ∧ VR G k y.key ∧ VR G v y.val ∧ y.born = b := by
 have hil : i < es.length := by
  rcases Nat.lt_or_ge i es.length with h' | h'
  ·exact h'
  ·rw [List.getElem?_eq_none h'] at hi; cases hi
 have hl := h.1
 simp only [Array.length_toList] at hl
 have hic : i < ces.size := by omega
 exact ⟨ces[i], Array.getElem?_eq_getElem hic, h.2 i k v b ces[i] hi (by simp [hic])⟩
theorem upd_sound (h : Sim B w0 G s w) {e : AEnv} {a : Act} (hop : OpdR G e a) (hd : DfrR G s.dfr a.defers) {o : Oper} {t : TypeId} {m i z : Operand} (ho : o.op = .mapUpdate t m i z ∨ o.op = .insert t m i z) {kt et : TypeId} (hu : P.underlying t = some (.map kt et)) {m' i' z' : AOpd} (hm : compOpd m = some m') (hi : compOpd i = some i') (hz : compOpd z = some z')
  {kk : KeyT} (hkt : mapKeyT P kt = some kk) {rk : Bool} (hrk : eqKey kk (ev e i') (ev e i') = some rk) {s' : ASt} (hv : updM kk s (ev e i') (ev e z') (ev e m') = some s') : OpOK P B w0 G s w o a none udf s' := by
 have vm := hop.opd hm
 have vi := hop.opd hi
 have vz := hop.opd hz
 generalize hq : ev e m' = q at *
 cases q <;> simp only [updM] at hv <;> try (cases hv; done)
 rename_i id
 generalize hcm : a.eval m = c at *
 cases vm with
 | map hb =>
  rename_i bb
  obtain ⟨_, _, _, ob, x, hob, hx, hr⟩ := h.obj id bb hb
  rw [hob] at hv
  cases hr with
  | cells h1 h2 => cases hv
  | map h1 =>
   rename_i es ces cl
   simp only at hv
   cases hp : putE kk (ev e i') (ev e z') cl es with
   | none => rw [hp] at hv; cases hv
   | some r =>
    rw [hp] at hv; injection hv with hv; subst hv
    have hck : (Instr.checkKey false 10000 kt (a.eval i)).run P w = .ok () w := r_checkKey hkt hrk vi false 9998
    have fin : ∀ (nes : Array MapEntry) (ncl : Nat), EntR G r.1 nes.toList → ncl = r.2 → (Instr.mapUpdate t (.map (some bb)) (a.eval i) (a.eval z)).run P w = .ok () { w with heap := w.heap.setIfInBounds bb (.map nes ncl) } → OpOK P B w0 G s w o a none udf (s.set id (.map r.1 r.2)) := by
     rintro nes ncl h2 rfl h3
     refine ⟨undef, _, G, a.defers, fun next Q hq => ?_, VR.udf_, .refl G, h.turn id bb hb (.map r.1 r.2) (.map nes r.2) (.map h2), hd, .refl G _ _⟩
     have : (execOp a.eval o).run P w = .ok .skip { w with heap := w.heap.setIfInBounds bb (.map nes r.2) } := by
      rcases ho with ho | ho <;> simp only [execOp, ho, hcm, Sem.run_bind, h3, Result.andThen_ok, Sem.run_pure]
     rw [this]; exact hq
    rcases putE_idx hp with ⟨h2, h3⟩ | ⟨j, k', v', b', h2, h3, h4, h5⟩
    ·have hfk := r_findKey (w := w) hkt vi h1 h2
     simp only [Option.map_none] at hfk
     refine fin (ces.push { key := a.eval i, val := a.eval z, born := cl }) (cl + 1) (by rw [h3]; exact h1.push vi vz rfl) (by rw [h3]) ?_
     simp only [Instr.mapUpdate, Sem.run_bind, r_und hu, Result.andThen_ok, getObj_map hx, hck, hfk, setObj_map hx]
    ·have hfk := r_findKey (w := w) hkt vi h1 h2
     simp only [Option.map_some] at hfk
     obtain ⟨y, hy, vk, vv, hbn⟩ := h1.at_ h3
     have hsb := sameBits_eq h4 vi vk 9999
     refine fin (ces.modify j fun e => { e with key := a.eval i, val := a.eval z }) cl (by rw [h5]; exact h1.set j _ (fun y' hy' => by rw [hy] at hy'; injection hy' with hy'; subst hy'; exact ⟨vi, vz, hbn⟩)) (by rw [h5]) ?_
     simp only [Instr.mapUpdate, Sem.run_bind, r_und hu, Result.andThen_ok, getObj_map hx, hck, hfk, hy, Option.map_some, Option.getD_some, keyThatStays_same hsb, setObj_map hx]
theorem touch_sound (h : Sim B w0 G s w) {e : AEnv} {a : Act} (hop : OpdR G e a) (hd : DfrR G s.dfr a.defers) {o : Oper} {t : TypeId} {m i : Operand} (ho : o.op = .mapEntry t m i) {kt et : TypeId} (hu : P.underlying t = some (.map kt et)) {m' i' : AOpd} (hm : compOpd m = some m') (hi : compOpd i = some i')
  {kk : KeyT} (hkt : mapKeyT P kt = some kk) {zz : AV} (hz : zeroAV P et = some zz) {rk : Bool} (hrk : eqKey kk (ev e i') (ev e i') = some rk) {v : AV} {s' : ASt} (hv : touchM kk s (ev e i') zz (ev e m') = some (v, s')) : OpOK P B w0 G s w o a none v s' := by
 have vm := hop.opd hm
 have vi := hop.opd hi
 obtain ⟨zv, hzv, hzc⟩ := zeroAV_spec hz
 have vz := ofVal_VR (G := G) hzc
 generalize hq : ev e m' = q at *
 cases q <;> simp only [touchM] at hv <;> try (cases hv; done)
 rename_i id
 generalize hcm : a.eval m = c at *
 cases vm with
 | map hb =>
  rename_i bb
  obtain ⟨_, _, _, ob, x, hob, hx, hr⟩ := h.obj id bb hb
  rw [hob] at hv
  cases hr with
  | cells h1 h2 => cases hv
  | map h1 =>
   rename_i es ces cl
   simp only at hv
   cases hp : touchE kk (ev e i') zz cl es with
   | none => rw [hp] at hv; cases hv
   | some r =>
    rw [hp] at hv; injection hv with hv; injection hv with hv1 hv2; subst hv1; subst hv2
    have hck : (Instr.checkKey false 10000 kt (a.eval i)).run P w = .ok () w := r_checkKey hkt hrk vi false 9998
    have fin : ∀ (nes : Array MapEntry) (ncl : Nat) (cv : Value) (n : Nat), EntR G r.2.2.1 nes.toList → ncl = r.2.2.2 → VR G r.1 cv → n = r.2.1 → (Instr.mapEntry t (.map (some bb)) (a.eval i)).run P w = .ok (.tuple #[cv, goInt n]) { w with heap := w.heap.setIfInBounds bb (.map nes ncl) } →
      OpOK P B w0 G s w o a none (.tuple [r.1, .int .i64 r.2.1]) (s.set id (.map r.2.2.1 r.2.2.2)) := by
     rintro nes ncl cv n h2 rfl h4 rfl h3
     refine ⟨.tuple #[cv, goInt r.2.1], _, G, a.defers, fun next Q hq => ?_, VR.tuple' (VRs.cons h4 (VRs.cons (.int _ _) (VRs.nil G))), .refl G, h.turn id bb hb (.map r.2.2.1 r.2.2.2) (.map nes r.2.2.2) (.map h2), hd, .refl G _ _⟩
     have : (execOp a.eval o).run P w = .ok (.value (.tuple #[cv, goInt r.2.1])) { w with heap := w.heap.setIfInBounds bb (.map nes r.2.2.2) } := by
      simp only [execOp, ho, hcm, Sem.run_bind, h3, Result.andThen_ok, Sem.run_pure]
     rw [this]; exact hq
    rcases touchE_idx hp with ⟨h2, h3⟩ | ⟨j, k', v', b', h2, h3, h4, h5⟩
    ·have hfk := r_findKey (w := w) hkt vi h1 h2
     simp only [Option.map_none] at hfk
     refine fin (ces.push { key := a.eval i, val := zv, born := cl }) (cl + 1) zv cl (by rw [h3]; exact h1.push vi vz rfl) (by rw [h3]) (by rw [h3]; exact vz) (by rw [h3]) ?_
     simp only [Instr.mapEntry, Sem.run_bind, r_und hu, Result.andThen_ok, getObj_map hx, hck, hfk, setObj_map hx, r_zero hzv, Sem.run_pure]
    ·have hfk := r_findKey (w := w) hkt vi h1 h2
     simp only [Option.map_some] at hfk
     obtain ⟨y, hy, vk, vv, hbn⟩ := h1.at_ h3
     have hsb := sameBits_eq h4 vi vk 9999
     have hyl : ces.toList[j]? = some y := by simpa using hy
     rw [hyl] at hfk
     simp only [Option.map_some, Option.getD_some] at hfk
     refine fin (ces.modify j fun e => { e with key := a.eval i }) cl y.val b' (by rw [h5]; exact h1.set j _ (fun y' hy' => by rw [hy] at hy'; injection hy' with hy'; subst hy'; exact ⟨vi, vv, hbn⟩)) (by rw [h5]) (by rw [h5]; exact vv) (by rw [h5]) ?_
     simp only [Instr.mapEntry, Sem.run_bind, r_und hu, Result.andThen_ok, getObj_map hx, hck, hfk, hy, Option.map_some, Option.getD_some, keyThatStays_same hsb, setObj_map hx, Sem.run_pure, hbn]
theorem stampE_idx {n : Int} {v : AV} : ∀ {es r : List (AV × AV × Nat)}, stampE n v es = some r → ∃ (i : Nat) (k' v' : AV) (b : Nat), es[i]? = some (k', v', b) ∧ (b : Int) = n ∧ (∀ (j : Nat) (k'' v'' : AV) (b' : Nat), j < i → es[j]? = some (k'', v'', b') → (b' : Int) ≠ n) ∧ r = es.set i (k', v, b)
 | [], r, h => by simp [stampE] at h
 | (k', v', b) :: es, r, h => by
  simp only [stampE] at h
  split at h
  ·rename_i e
   injection h with h; subst h
   exact ⟨0, k', v', b, rfl, e, fun j _ _ _ hj => by omega, rfl⟩
  ·rename_i e
   cases hp : stampE n v es with
   | none => rw [hp] at h; cases h
   | some q =>
    rw [hp] at h; injection h with h; subst h
    obtain ⟨i, k'', v'', b', h1, h2, h3, h4⟩ := stampE_idx hp
    refine ⟨i + 1, k'', v'', b', h1, h2, fun j k3 v3 b3 hj hg => ?_, by simp [h4]⟩
    cases j with
    | zero => simp at hg; obtain ⟨_, _, rfl⟩ := hg; exact e
    | succ j => exact h3 j k3 v3 b3 (by omega) (by simpa using hg)
theorem stamp_sound (h : Sim B w0 G s w) {e : AEnv} {a : Act} (hop : OpdR G e a) (hd : DfrR G s.dfr a.defers) {o : Oper} {t : TypeId} {m i z : Operand} (ho : o.op = .entryStore t m i z) {m' i' z' : AOpd} (hm : compOpd m = some m') (hi : compOpd i = some i') (hz : compOpd z = some z')
  {s' : ASt} (hv : stampM s (ev e i') (ev e z') (ev e m') = some s') : OpOK P B w0 G s w o a none udf s' := by
 have vm := hop.opd hm
 have vi := hop.opd hi
 have vz := hop.opd hz
 generalize hq : ev e m' = q at *
 cases q <;> simp only [stampM] at hv <;> try (cases hv; done)
 rename_i id
 generalize hcm : a.eval m = c at *
 cases vm with
 | map hb =>
  rename_i bb
  obtain ⟨_, _, _, ob, x, hob, hx, hr⟩ := h.obj id bb hb
  rw [hob] at hv
  cases hr with
  | cells h1 h2 => cases hv
  | map h1 =>
   rename_i es ces cl
   generalize hqi : ev e i' = qi at *
   cases qi <;> simp only at hv <;> try (cases hv; done)
   rename_i kk n
   cases hp : stampE n (ev e z') es with
   | none => rw [hp] at hv; cases hv
   | some r =>
    rw [hp] at hv; injection hv with hv; subst hv
    obtain ⟨j, k', v', b', h2, h3, h4, h5⟩ := stampE_idx hp
    obtain ⟨y, hy, vk, vv, hbn⟩ := h1.at_ h2
    have hjl := lt_of_get hy
    have hfi : ces.findIdx? (fun e => (e.born : Int) == n) = some j := by
     rw [Array.findIdx?_eq_some_iff_getElem]
     refine ⟨hjl, ?_, fun j' hj' => ?_⟩
     ·rw [Array.getElem?_eq_getElem hjl] at hy; injection hy with hy; rw [hy, hbn]; simpa using h3
     ·have hl := h1.1
      simp only [Array.length_toList] at hl
      have hje : j' < es.length := by omega
      obtain ⟨y', hy', _, _, hbn'⟩ := h1.at_ (i := j') (k := es[j'].1) (v := es[j'].2.1) (b := es[j'].2.2) (List.getElem?_eq_getElem hje)
      have := h4 j' es[j'].1 es[j'].2.1 es[j'].2.2 hj' (List.getElem?_eq_getElem hje)
      have hj2 : j' < ces.size := by omega
      rw [Array.getElem?_eq_getElem hj2] at hy'; injection hy' with hy'
      rw [hy', hbn']; simpa using this
    refine ⟨undef, _, G, a.defers, fun next Q hq => ?_, VR.udf_, .refl G, h.turn id bb hb (.map r cl) (.map (ces.modify j fun e => { e with val := a.eval z }) cl) (.map (by rw [h5]; exact h1.set j _ (fun y' hy' => by rw [hy] at hy'; injection hy' with hy'; subst hy'; exact ⟨vk, vz, hbn⟩))), hd, .refl G _ _⟩
    have : (execOp a.eval o).run P w = .ok .skip { w with heap := w.heap.setIfInBounds bb (.map (ces.modify j fun e => { e with val := a.eval z }) cl) } := by
     simp only [execOp, ho, hcm, Instr.entryStore, Sem.run_bind, Sem.run_pure, getObj_map hx, Result.andThen_ok, vi.int_inv, asInt, asIntOf, hfi, setObj_map hx]
    rw [this]; exact hq
end
section
variable {P : Program} {B : Nat} {w0 : World} {G : Gh} {s : ASt} {w : World}
theorem get_lt {α : Type} {l : List α} {i : Nat} {x : α} (h : l[i]? = some x) : i < l.length := by
 rcases Nat.lt_or_ge i l.length with h' | h'
 ·exact h'
 ·rw [List.getElem?_eq_none h'] at h; cases h
/-- A slice whose cells are told one by one. -/
theorem VR.slice_of {o : Own} {es : List AV} {n cap sz : Nat} {ad : Addr} (h0 : n = es.length) (h1 : SlOK G sz o n (some ad) cap) (h2 : ∀ e ∈ es, e.okc = true ∧ e.cells.length = sz ∧ ∀ x ∈ e.cells, x.isCell = true)
  (hC : ∀ (i : Nat) (e : AV) (j : Nat) (a : AV), es[i]? = some e → e.cells[j]? = some a → ∃ c, G.C (ad.add (i * sz + j)) = some c ∧ VR G a c) : VR G (.slice o es) (.slice (some ad) n cap) := by
 have hall : ∀ j, j < es.length * sz → ∃ c, G.C (ad.add j) = some c := by
  intro j hj
  have hsz : 0 < sz := by
   rcases Nat.eq_zero_or_pos sz with h' | h'
   ·rw [h', Nat.mul_zero] at hj; omega
   ·exact h'
  have hi : j / sz < es.length := (Nat.div_lt_iff_lt_mul hsz).2 hj
  have he : es[j / sz]? = some es[j / sz] := List.getElem?_eq_getElem hi
  have hcl := (h2 _ (List.getElem_mem hi)).2.1
  have hm : j % sz < es[j / sz].cells.length := by rw [hcl]; exact Nat.mod_lt _ hsz
  obtain ⟨c, hc, _⟩ := hC (j / sz) _ (j % sz) _ he (List.getElem?_eq_getElem hm)
  have : j / sz * sz + j % sz = j := by rw [Nat.mul_comm]; exact Nat.div_add_mod j sz
  rw [this] at hc
  exact ⟨c, hc⟩
 refine .slice sz (fun j => (G.C (ad.add j)).getD undef) h0 h1 h2 (fun _ => rfl) (fun ad' ha j hj => ?_) (fun i e j a hi hj => ?_)
 ·injection ha with ha; subst ha
  obtain ⟨c, hc⟩ := hall j hj
  rw [hc]; rfl
 ·obtain ⟨c, hc, hv⟩ := hC i e j a hi hj
  simp only [hc, Option.getD_some]; exact hv
theorem VR.elem {o : Own} {es : List AV} {A : Option Addr} {n cap : Nat} (h : VR G (.slice o es) (.slice A n cap)) {sz : Nat} (hs : ∀ e ∈ es, e.cells.length = sz) : n = es.length ∧ (∃ sz', SlOK G sz' o n A cap) ∧
  (∀ e ∈ es, e.okc = true ∧ ∀ x ∈ e.cells, x.isCell = true) ∧ (0 < es.length → ∃ ad, A = some ad) ∧
  ∀ ad, A = some ad → ∃ cl : List Value, cl.length = es.length * sz ∧ (∀ j c, cl[j]? = some c → G.C (ad.add j) = some c) ∧ ∀ (i : Nat) (e : AV) (j : Nat) (a : AV), es[i]? = some e → e.cells[j]? = some a → ∃ c, cl[i * sz + j]? = some c ∧ VR G a c := by
 cases h with
 | slice sz' cv h0 h1 h2 h3 h4 h5 =>
  refine ⟨h0, ⟨sz', h1⟩, fun e he => ⟨(h2 e he).1, (h2 e he).2.2⟩, fun hp => Option.isSome_iff_exists.1 (h3 hp), fun ad ha => ⟨(List.range (es.length * sz)).map cv, by simp, fun j c hj => ?_, fun i e j a hi hj => ?_⟩⟩
  ·have hjl := get_lt hj
   simp only [List.length_map, List.length_range] at hjl
   rw [List.getElem?_map, List.getElem?_range hjl] at hj
   injection hj with hj; subst hj
   have hpos : 0 < es.length := by
    rcases Nat.eq_zero_or_pos es.length with h' | h'
    ·rw [h', Nat.zero_mul] at hjl; omega
    ·exact h'
   have hss : sz' = sz := by
    have hm := List.getElem_mem hpos
    have := (h2 _ hm).2.1; have := hs _ hm; omega
   subst hss
   exact h4 ad ha j hjl
  ·have hil := get_lt hi
   have hm := List.mem_of_getElem? hi
   have hss : sz' = sz := by have := (h2 _ hm).2.1; have := hs _ hm; omega
   subst hss
   have hjl := get_lt hj
   rw [(h2 _ hm).2.1] at hjl
   have hlt : i * sz' + j < es.length * sz' := by
    have : (i + 1) * sz' ≤ es.length * sz' := Nat.mul_le_mul_right _ hil
    rw [Nat.succ_mul] at this; omega
   exact ⟨cv (i * sz' + j), by rw [List.getElem?_map, List.getElem?_range hlt]; rfl, h5 i e j a hi hj⟩
theorem sizedV_spec {sz : Nat} {l : List AV} (h : sizedV sz l = true) : ∀ e ∈ l, e.okc = true ∧ e.cells.length = sz := by
 intro e he
 have := List.all_eq_true.1 h e he
 simpa using this
theorem elems_sound (h : Sim B w0 G s w) {y : AV} {c : Value} (hv : VR G y c) {new : List AV} (he : elemsV y = some new) {sz : Nat} (hs : sizedV sz new = true) :
  (Builtin.lenOf c).run P w = .ok new.length w ∧ (∀ e ∈ new, ∀ x ∈ e.cells, x.isCell = true) ∧ ∃ cl : List Value, (Builtin.firstCells sz new.length c).run P w = .ok cl.toArray w ∧ cl.length = new.length * sz ∧
   ∀ (i : Nat) (e : AV) (j : Nat) (a : AV), new[i]? = some e → e.cells[j]? = some a → ∃ c, cl[i * sz + j]? = some c ∧ VR G a c := by
 have hsz := sizedV_spec hs
 cases y <;> simp only [elemsV] at he <;> try (cases he; done)
 ·rename_i st
  injection he with he; subst he
  rw [hv.str_inv]
  have hl : (⟨st.toArray⟩ : ByteArray).size = st.length := by simp [ByteArray.size]
  refine ⟨by simp [Builtin.lenOf, hl], fun e he x hx => ?_, st.map fun b => .int .u8 (b.toNat : Int), ?_, ?_, fun i e j a hi hj => ?_⟩
  ·obtain ⟨b, _, rfl⟩ := List.mem_map.1 he
   simp only [AV.cells, List.mem_singleton] at hx; subst hx; rfl
  ·simp only [Builtin.firstCells, Sem.run_pure, List.length_map]
   congr 1
   apply Array.ext'
   simp
  ·cases st with
   | nil => simp
   | cons b st =>
    have := (hsz (.int .u8 b.toNat) (by simp)).2
    simp only [AV.cells, List.length_singleton] at this
    subst this
    simp
  ·rw [List.getElem?_map] at hi
   cases hb : st[i]? with
   | none => rw [hb] at hi; cases hi
   | some b =>
    rw [hb] at hi; injection hi with hi; subst hi
    have h1 : sz = 1 := by have := (hsz (.int .u8 b.toNat) (List.mem_map.2 ⟨b, List.mem_of_getElem? hb, rfl⟩)).2; simpa [AV.cells] using this.symm
    subst h1
    have hj0 : j = 0 := by have := get_lt hj; simp [AV.cells] at this; exact this
    subst hj0
    simp only [AV.cells, List.getElem?_cons_zero] at hj
    injection hj with hj; subst hj
    exact ⟨.int .u8 b.toNat, by simp [hb], .int _ _⟩
 ·rename_i ow es
  injection he with he; subst he
  generalize hc : c = c' at *
  cases c' <;> try (cases hv; done)
  rename_i A n cap
  obtain ⟨h0, ⟨sz', h1⟩, h2, h3, h4⟩ := hv.elem (sz := sz) (fun e he => (hsz e he).2)
  subst h0
  refine ⟨by simp [Builtin.lenOf], fun e he => (h2 e he).2, ?_⟩
  cases A with
  | none =>
   have : es = [] := by
    cases es with
    | nil => rfl
    | cons e es => obtain ⟨ad, ha⟩ := h3 (by simp); cases ha
   subst this
   exact ⟨[], by simp [Builtin.firstCells], by simp, by simp⟩
  | some ad =>
   obtain ⟨cl, h5, h6, h7⟩ := h4 ad rfl
   refine ⟨cl, ?_, h5, h7⟩
   simp only [Builtin.firstCells]
   rw [← h5]
   exact run_loadCells_list w ad cl (fun j c hj => h.comm _ _ (h6 j c hj))
theorem growBy_le (n : Nat) : ∀ (r c : Nat), c ≤ n + (n + 768) / 4 → Builtin.growBy n r c ≤ n + (n + 768) / 4
 | 0, c, h => h
 | r + 1, c, h => by
  simp only [Builtin.growBy]
  split
  ·exact h
  ·rename_i hc
   exact growBy_le n r _ (by have : (c + 768) / 4 ≤ (n + 768) / 4 := Nat.div_le_div_right (by omega); omega)
theorem nextslicecap_le {n c : Nat} (h : c < n) : Builtin.nextslicecap n c ≤ 2 * n + 1024 := by
 unfold Builtin.nextslicecap
 split
 ·omega
 ·split
  ·omega
  ·have := growBy_le n 4 c (by omega)
   omega
theorem append_sound (h : Sim B w0 G s w) {e : AEnv} {a : Act} (hop : OpdR G e a) (hd : DfrR G s.dfr a.defers) {o : Oper} {c : Call} (ho : o.op = .call c) (hcal : c.callee = .builtin .append) {y z : Operand} (hargs : c.args.toList = [y, z]) {t u el : TypeId} (htys : c.argTypes.toList = [t, u]) {ud : TypeDesc}
  (hu : P.underlying t = some (.slice el)) (hu2 : P.underlying u = some ud) (hni : ∀ k, ud ≠ .int k) {sz bytes : Nat} {zv : Value} (hsz : sizeT P el = some sz) (hby : bytesT P el = some bytes) (hz : zeroVal P el = some zv) (hs0 : sz ≠ 0) (hb0 : bytes ≠ 0) (hzs : zv.cells.size = sz)
  {y' z' : AOpd} (hy : compOpd y = some y') (hzz : compOpd z = some z') {ow : Own} {es new : List AV} (hes : ev e y' = .slice ow es) (hnew : elemsV (ev e z') = some new) {b k : Nat} {v : AV} {s' : ASt} (hv : appV b k sz bytes s ow es new = some (v, s'))
  (hown : b + k < s.ctr ∧ G.Fresh (b + k)) : OpOK P B w0 G s w o a (some (b + k)) v s' := by
 have vy := hop.opd hy
 have vz := hop.opd hzz
 rw [hes] at vy
 unfold appV at hv
 split at hv
 case isFalse => cases hv
 rename_i hcond
 obtain ⟨hmax, hsn⟩ := hcond
 have hsnew := sizedV_spec hsn
 obtain ⟨hlen, hcells, cl, hfirst, hcl, hclr⟩ := elems_sound (P := P) h vz hnew hsn
 obtain ⟨ti, hti, hbi⟩ := r_bytes hby
 -- the slice that is appended to
 generalize hcy : a.eval y = cy at *
 cases cy <;> try (cases vy; done)
 rename_i A n cap
 have run : ∀ cv w', (Builtin.append_ c.argTypes o.type (c.args.map a.eval)).run P w = .ok cv w' → (execOp a.eval o).run P w = .ok (.value cv) w' := by
  intro cv w' h1
  simp only [execOp, ho, resolve, hcal, Sem.run_bind, Sem.run_pure, Result.andThen_ok, invoke, builtin, h1]
 have ha : (c.args.map a.eval) = #[.slice A n cap, a.eval z] := by
  have : c.args = #[y, z] := by apply Array.ext'; rw [hargs]
  rw [this]; simp [hcy]
 have hT : c.argTypes = #[t, u] := by apply Array.ext'; rw [htys]
 have hzeros : ((underlying u).run P w) = .ok ud w := r_und hu2
 have hznot : (match ud with | .int _ => true | _ => false) = false := by cases ud <;> first | rfl | exact absurd rfl (hni _)
 have one : ∀ x ∈ cl, x.oneCell' = true := by
  intro x hx
  obtain ⟨j, hj⟩ := List.getElem?_of_mem hx
  have hjl := get_lt hj
  rw [hcl] at hjl
  have hsz' : 0 < sz := Nat.pos_of_ne_zero hs0
  have hi : j / sz < new.length := (Nat.div_lt_iff_lt_mul hsz').2 hjl
  have he : new[j / sz]? = some new[j / sz] := List.getElem?_eq_getElem hi
  have hm : j % sz < new[j / sz].cells.length := by rw [(hsnew _ (List.getElem_mem hi)).2]; exact Nat.mod_lt _ hsz'
  obtain ⟨c', hc', hvr⟩ := hclr (j / sz) _ (j % sz) _ he (List.getElem?_eq_getElem hm)
  have : j / sz * sz + j % sz = j := by rw [Nat.mul_comm]; exact Nat.div_add_mod j sz
  rw [this, hj] at hc'
  injection hc' with hc'; subst hc'
  exact hvr.one (hcells _ (List.getElem_mem hi) _ (List.getElem_mem hm))
 have hesz : ∀ e ∈ es, e.cells.length = sz := by
  cases ow with
  | foreign => cases hv
  | full =>
   simp only at hv
   split at hv
   ·rename_i hsz'
    exact fun e he => (sizedV_spec hsz' e he).2
   ·cases hv
  | own id =>
   cases vy with
   | slice sz' cv h0 h1 h2 h3 h4 h5 =>
    obtain ⟨_, bb, _, hI⟩ := h1
    obtain ⟨_, _, ⟨m, hm, _⟩, _⟩ := h.own bb id sz' cap hI
    simp only [hm] at hv
    split at hv
    ·rename_i hc
     exact fun e he => by have := (h2 e he).2.1; omega
    ·cases hv
 obtain ⟨hn0, ⟨szs, hSl⟩, hok, hA0, hA1⟩ := vy.elem hesz
 -- where there is room
 have room : n + new.length ≤ cap → ∀ w', (∀ ad, A = some ad → (storeCells (ad.add (n * sz)) cl).run P w = .ok () w') → (A = none → w' = w) →
   (Builtin.append_ c.argTypes o.type (c.args.map a.eval)).run P w = .ok (.slice A (n + new.length) cap) w' := by
  intro hr w' h1 h2
  rw [ha, hT]
  simp only [Builtin.append_, List.getElem?_toArray, List.getElem?_cons_zero, List.getElem?_cons_succ, Sem.run_bind, r_und hu, hzeros, Result.andThen_ok, r_size hsz, Sem.run_pure]
  simp only [Bool.false_eq_true, if_false, Sem.run_bind, hlen, Result.andThen_ok, Sem.run_ite, if_pos hr, Bool.not_false, if_true, hfirst]
  cases A with
  | none => rw [h2 rfl]; simp
  | some ad => simp [h1 ad rfl]
 have grow' : ¬ n + new.length ≤ cap → ∀ old cl : List Value, (Builtin.firstCells sz n (.slice A n cap)).run P w.drew = .ok old.toArray w.drew → (Builtin.firstCells sz new.length (a.eval z)).run P w.drew = .ok cl.toArray w.drew →
   ∃ nc, n + new.length ≤ nc ∧ (Builtin.append_ c.argTypes o.type (c.args.map a.eval)).run P w = .ok (.slice (some ⟨w.heap.size, 0, none⟩) (n + new.length) nc)
    { w.drew with heap := w.drew.heap.push (.cells (old.toArray ++ cl.toArray ++ Builtin.zeroCells zv.cells (nc - (n + new.length))) el (0, 0)) } := by
  intro hr old cl h1 h2
  let nc := (Question.appendCap (n + new.length) cap el).cut (w.tape w.drawn (.appendCap (n + new.length) cap el))
  have hnc : n + new.length ≤ nc := by simp only [nc, Question.cut]; omega
  have hnext : ¬ Builtin.nextslicecap (n + new.length) cap * ti.bytes > 2 ^ 48 := by
   have h3 := nextslicecap_le (n := n + new.length) (c := cap) (by omega)
   rw [hbi]
   rw [hn0] at h3 ⊢
   have h4 : Builtin.nextslicecap (es.length + new.length) cap * bytes ≤ (2 * (es.length + new.length) + 1024) * bytes := Nat.mul_le_mul_right _ h3
   omega
  refine ⟨nc, hnc, ?_⟩
  rw [ha, hT]
  simp only [Builtin.append_, List.getElem?_toArray, List.getElem?_cons_zero, List.getElem?_cons_succ, Sem.run_bind, r_und hu, hzeros, Result.andThen_ok, r_size hsz, Sem.run_pure]
  simp only [Bool.false_eq_true, if_false, Sem.run_bind, hlen, Result.andThen_ok, Sem.run_ite, if_neg hr, r_info hti, false_or, hbi, hb0, and_false]
  rw [hbi] at hnext
  simp only [if_neg hnext]
  have hch : (choose (Question.appendCap (n + new.length) cap el)).run P w = .ok nc w.drew := by
   rw [run_choose, if_neg (by simp [Question.forced])]; rfl
  simp only [hch, Result.andThen_ok, r_info hti, run_askRoom, h1, h2, Bool.not_false, if_true, r_zero hz, newRow, Sem.run_bind, run_newObj, Sem.run_pure]
  rfl
 have holdc : ∀ ad, A = some ad → ∃ old : List Value, old.length = es.length * sz ∧ (∀ w2 : World, (∀ a v, G.C a = some v → w2.cell? a = some v) → (Builtin.firstCells sz n (.slice A n cap)).run P w2 = .ok old.toArray w2) ∧ ∀ (i : Nat) (e : AV) (j : Nat) (a : AV), es[i]? = some e → e.cells[j]? = some a → ∃ c, old[i * sz + j]? = some c ∧ VR G a c := by
  intro ad hA
  obtain ⟨old, h1, h2, h3⟩ := hA1 ad hA
  refine ⟨old, h1, fun w2 hw2 => ?_, h3⟩
  rw [hA]
  simp only [Builtin.firstCells]
  rw [hn0, ← h1]
  exact run_loadCells_list w2 ad old (fun j c hj => hw2 _ _ (h2 j c hj))
 have hdrew : Sim B w0 G s w.drew := h.drew
 -- a row that is grown
 have grown : ¬ n + new.length ≤ cap → ∀ id, id < s.ctr → G.ρ id = none → (∀ b sz' cap', G.I b = some (id, sz', cap') → ∀ m', s.heap id = some (.arr m' sz') → m' ≤ es.length + new.length ∧ sz' = sz) → (∀ i, i < s.ctr → some (b + k) ≠ some i → G.Fresh i → i ≠ id) →
   OpOK P B w0 G s w o a (some (b + k)) (.slice (.own id) (es ++ new)) (s.set id (.arr (es.length + new.length) sz)) := by
  intro hr id hid hρ hold hkeep
  obtain ⟨old, ho1, ho2, ho3⟩ : ∃ old : List Value, old.length = es.length * sz ∧ (∀ w2 : World, (∀ a v, G.C a = some v → w2.cell? a = some v) → (Builtin.firstCells sz n (.slice A n cap)).run P w2 = .ok old.toArray w2) ∧ ∀ (i : Nat) (e : AV) (j : Nat) (a : AV), es[i]? = some e → e.cells[j]? = some a → ∃ c, old[i * sz + j]? = some c ∧ VR G a c := by
   cases hA : A with
   | some ad => rw [← hA]; exact holdc ad hA
   | none =>
    have : es = [] := by
     cases hes' : es with
     | nil => rfl
     | cons e0 es' => obtain ⟨ad, h'⟩ := hA0 (by rw [hes']; simp); rw [hA] at h'; cases h'
    subst this
    exact ⟨[], by simp, fun w2 _ => by simp [Builtin.firstCells], by simp⟩
  obtain ⟨_, _, cl2, hf2, hl2, hr2⟩ := elems_sound (P := P) hdrew vz hnew hsn
  have hcl2 : cl2 = cl ∨ True := .inr trivial
  have hf3 : (Builtin.firstCells sz new.length (a.eval z)).run P w.drew = .ok cl2.toArray w.drew := hf2
  obtain ⟨nc, hnc, hrun⟩ := grow' hr old cl2 (ho2 w.drew (fun a v ha => hdrew.comm a v ha)) hf3
  let cs : Array Value := old.toArray ++ cl2.toArray ++ Builtin.zeroCells zv.cells (nc - (n + new.length))
  have hcs : cs.size = nc * sz := by
   simp only [cs, Array.size_append, List.size_toArray, Builtin.zeroCells, Array.size_map, Array.size_range, ho1, hl2, hzs]
   rw [← Nat.add_mul, ← Nat.add_mul, ← hn0]
   congr 1; omega
  obtain ⟨G', hle, hsim, hI, hC, hρ', hI'⟩ := hdrew.grow (i := id) (sz := sz) (m := es.length + new.length) (cap := nc) cs el hid hold hρ hcs
  have hget : ∀ j, j < (es.length + new.length) * sz → cs[j]? = (old ++ cl2)[j]? := by
   intro j hj
   have : j < (old.toArray ++ cl2.toArray).size := by simp only [Array.size_append, List.size_toArray, ho1, hl2, ← Nat.add_mul]; exact hj
   simp only [cs]
   rw [Array.getElem?_append_left this]
   simp
  have hvr : VR G' (.slice (.own id) (es ++ new)) (.slice (some ⟨w.heap.size, 0, none⟩) (n + new.length) nc) := by
   refine VR.slice_of (sz := sz) (by simp [hn0]) ⟨by omega, w.heap.size, rfl, hI⟩ (fun e he => ?_) (fun i e j x hi hj => ?_)
   ·rcases List.mem_append.1 he with he | he
    ·exact ⟨(hok e he).1, hesz e he, (hok e he).2⟩
    ·exact ⟨(hsnew e he).1, (hsnew e he).2, hcells e he⟩
   ·rw [add_at, Nat.zero_add]
    have hil := get_lt hi
    rw [List.length_append] at hil
    have hjl := get_lt hj
    by_cases hlt : i < es.length
    ·rw [List.getElem?_append_left hlt] at hi
     obtain ⟨c', h1, h2⟩ := ho3 i e j x hi hj
     refine ⟨c', hC _ _ ?_ ?_, h2.mono hle⟩
     ·have h5 := get_lt h1
      rw [ho1] at h5
      have : es.length * sz ≤ (es.length + new.length) * sz := Nat.mul_le_mul_right _ (by omega)
      omega
     ·have h5 := get_lt h1
      rw [ho1] at h5
      have : es.length * sz ≤ (es.length + new.length) * sz := Nat.mul_le_mul_right _ (by omega)
      rw [hget _ (by omega), List.getElem?_append_left (by rw [ho1]; exact h5)]
      exact h1
    ·rw [List.getElem?_append_right (by omega)] at hi
     obtain ⟨c', h1, h2⟩ := hr2 (i - es.length) e j x hi hj
     have h5 := get_lt h1
     rw [hl2] at h5
     have h6 : i * sz + j = es.length * sz + ((i - es.length) * sz + j) := by
      have : i = es.length + (i - es.length) := by omega
      rw [this, Nat.add_mul]; simp only [Nat.add_sub_cancel_left]; omega
     refine ⟨c', ?_, h2.mono hle⟩
     rw [h6]
     refine hC _ _ ?_ ?_
     ·rw [Nat.add_mul]; omega
     ·rw [hget _ (by rw [Nat.add_mul]; omega), List.getElem?_append_right (by rw [ho1]; omega), ho1, Nat.add_sub_cancel_left]
      exact h1
  refine ⟨.slice (some ⟨w.heap.size, 0, none⟩) (n + new.length) nc, _, G', a.defers, fun next Q hq => ?_, hvr, hle, hsim, hd.mono hle, fun i hi hne hf => ⟨by rw [hρ']; exact hf.1, fun bb x hx => ?_⟩⟩
  ·rw [run _ _ hrun]; exact hq
  ·by_cases hbb : bb = w.drew.heap.size
   ·subst hbb
    rw [hI] at hx
    injection hx with hx; subst hx
    exact fun e => hkeep i hi hne hf e.symm
   ·rw [hI' bb hbb] at hx
    exact hf.2 bb x hx
 cases ow with
 | foreign => cases hv
 | full =>
  simp only at hv
  split at hv
  case isFalse => cases hv
  have hcap : cap = n := hSl
  split at hv
  ·rename_i hn0'
   injection hv with hv; injection hv with hv1 hv2; subst hv1; subst hv2
   have hnil : new = [] := List.eq_nil_of_length_eq_zero hn0'
   have hclnil : cl = [] := by
    apply List.eq_nil_of_length_eq_zero
    rw [hcl, hn0', Nat.zero_mul]
   have := room (by omega) w (fun ad hA => by rw [hclnil]; rfl) (fun _ => rfl)
   rw [hn0', Nat.add_zero] at this
   have hok' := OpOK.val (own := some (b + k)) h hd (run _ _ this) vy
   exact hok'
  ·rename_i hpos
   injection hv with hv; injection hv with hv1 hv2; subst hv1; subst hv2
   exact grown (by omega) (b + k) hown.1 hown.2.1 (fun bb sz' cap' hI => absurd rfl (hown.2.2 bb _ hI)) (fun i _ hne _ e => hne (by rw [e]))
 | own id =>
  simp only at hv
  cases hid : s.heap id with
  | none => rw [hid] at hv; cases hv
  | some ob =>
   rw [hid] at hv
   cases ob with
   | cells l => cases hv
   | map l q => cases hv
   | arr m sz' =>
    simp only at hv
    split at hv
    case isFalse => cases hv
    rename_i hc
    obtain ⟨hm, hs⟩ := hc
    subst hm; subst hs
    injection hv with hv; injection hv with hv1 hv2; subst hv1; subst hv2
    obtain ⟨hle0, bb, hAb, hI⟩ := hSl
    subst hAb
    obtain ⟨hB1, hictr, ⟨m', hm', hCm⟩, cs, ty, hx, hcsz⟩ := h.own bb id szs cap hI
    rw [hid] at hm'; injection hm' with hm'; injection hm' with hm' hsz2; subst hm'; subst hsz2
    by_cases hr : n + new.length ≤ cap
    ·obtain ⟨G', hle, hsim, hC, hρ', hI'⟩ := h.extend hI hid hx cl hcl (by omega)
     have hst := run_storeCells P bb (n * sz') ty cl 0 w cs hx (by rw [hcl, hcsz, Nat.add_zero, ← Nat.add_mul]; exact Nat.mul_le_mul_right _ hr) one
     rw [Nat.add_zero, hn0] at hst
     have hrun := room hr _ (fun ad hA => by injection hA with hA; subst hA; rw [add_at, Nat.zero_add, hn0]; exact hst) (fun hA => by cases hA)
     obtain ⟨old, ho1, ho4, ho3⟩ := hA1 _ rfl
     have hvr : VR G' (.slice (.own id) (es ++ new)) (.slice (some ⟨bb, 0, none⟩) (n + new.length) cap) := by
      refine VR.slice_of (sz := sz') (by simp [hn0]) ⟨hr, bb, rfl, by rw [hI']; exact hI⟩ (fun e he => ?_) (fun i e j x hi hj => ?_)
      ·rcases List.mem_append.1 he with he | he
       ·exact ⟨(hok e he).1, hesz e he, (hok e he).2⟩
       ·exact ⟨(hsnew e he).1, (hsnew e he).2, hcells e he⟩
      ·by_cases hlt : i < es.length
       ·rw [List.getElem?_append_left hlt] at hi
        obtain ⟨c', h1, h2⟩ := ho3 i e j x hi hj
        exact ⟨c', hle.C _ _ (ho4 _ _ h1), h2.mono hle⟩
       ·rw [List.getElem?_append_right (by omega)] at hi
        obtain ⟨c', h1, h2⟩ := hclr (i - es.length) e j x hi hj
        have h6 : i * sz' + j = es.length * sz' + ((i - es.length) * sz' + j) := by
         have : i = es.length + (i - es.length) := by omega
         rw [this, Nat.add_mul]; simp only [Nat.add_sub_cancel_left]; omega
        refine ⟨c', ?_, h2.mono hle⟩
        rw [add_at, Nat.zero_add, h6]
        exact hC _ _ h1
     exact ⟨_, _, G', a.defers, fun next Q hq => by rw [run _ _ hrun]; exact hq, hvr, hle, hsim, hd.mono hle, .same _ _ hρ' hI'⟩
    ·exact grown hr id hictr (by
      cases hρ : G.ρ id with
      | none => rfl
      | some b' =>
       obtain ⟨_, _, _, ob, x, hob, _, hr'⟩ := h.obj id b' hρ
       rw [hid] at hob; injection hob with hob; subst hob; cases hr') (fun b1 sz1 cap1 hI1 m1 hm1 => by
       rw [hid] at hm1; injection hm1 with hm1; injection hm1 with e1 e2
       exact ⟨by omega, e2.symm⟩) (fun i _ _ hf e => by subst e; exact hf.2 bb _ hI rfl)
/-- Operations that turn the state. -/
theorem opW_sound (h : Sim B w0 G s w) {e : AEnv} {a : Act} (hop : OpdR G e a) (hd : DfrR G s.dfr a.defers) {o : Oper} {k b : Nat} {x : AOp} (hc : compOp P k o.op = some x) {v : AV} {s' : ASt} (hv : opW (ev e) b s x = some (v, s'))
  (hown : ∀ n, x.ownId b = some n → n < s.ctr ∧ G.Fresh n) : OpOK P B w0 G s w o a (x.ownId b) v s' := by
 cases ho : o.op <;> rw [ho] at hc <;> simp only [compOp] at hc <;> try (cases hc; done)
 case move y => cases hy : compOpd y <;> rw [hy] at hc <;> first | (cases hc; done) | (injection hc with hc; subst hc; cases hv)
 case assign y => cases hy : compOpd y <;> rw [hy] at hc <;> first | (cases hc; done) | (injection hc with hc; subst hc; cases hv)
 case pick c y z =>
  split at hc
  ·injection hc with hc; subst hc; cases hv
  ·cases hc
 case alloc t =>
  split at hc
  ·injection hc with hc; subst hc; cases hv
  ·cases hc
 case box t y =>
  split at hc
  ·rename_i y' n hy hn
   injection hc with hc; subst hc
   simp only [opW] at hv
   split at hv
   ·rename_i hok
    injection hv with hv; injection hv with hv1 hv2; subst hv1; subst hv2
    have vy := hop.opd hy
    obtain ⟨hi, hf⟩ := hown (b + k) rfl
    exact new_sound h hi hf hd (.cells (ev e y').cells) (.cells (a.eval y).cells t (0, 0)) (.cells vy.cells_ (vy.cells_ok hok)) (.pointer (some ⟨w.heap.size, 0, none⟩))
     (by simp [execOp, ho, Instr.box, newVar, newRow]) (fun G' _ hρ => .ptr hρ)
   ·cases hv
  ·cases hc
 case build t parts =>
  split at hc
  ·split at hc
   ·cases hp : structParts P _ parts.toList <;> rw [hp] at hc <;> first | (cases hc; done) | (injection hc with hc; subst hc; cases hv)
   ·cases hc
  ·split at hc
   ·cases hp : arrParts _ parts.toList <;> rw [hp] at hc <;> first | (cases hc; done) | (injection hc with hc; subst hc; cases hv)
   ·cases hc
  ·cases hc
 case buildSlice t len parts =>
  split at hc
  ·split at hc
   ·split at hc
    ·cases hp : rowParts parts.toList 0 <;> rw [hp] at hc <;> first | (cases hc; done) | (injection hc with hc; subst hc; cases hv)
    ·cases hc
   ·cases hc
  ·cases hc
 case load t y =>
  split at hc
  ·split at hc
   ·injection hc with hc; subst hc; cases hv
   ·cases hc
  ·cases hc
 case store t y z =>
  split at hc
  ·rename_i sz y' z' hs hy hz
   injection hc with hc; subst hc
   simp only [opW] at hv
   cases hst : stV sz s (ev e z') (ev e y') with
   | none => rw [hst] at hv; cases hv
   | some s1 =>
    rw [hst] at hv; injection hv with hv; injection hv with hv1 hv2; subst hv1; subst hv2
    exact store_sound h hop hd ho hs hy hz hst b
  ·cases hc
 case nilCheck y => cases hy : compOpd y <;> rw [hy] at hc <;> first | (cases hc; done) | (injection hc with hc; subst hc; cases hv)
 case binOp op t y z u =>
  split at hc
  ·unfold compBin at hc
   split at hc
   ·injection hc with hc; subst hc; cases hv
   ·injection hc with hc; subst hc; cases hv
   ·cases hn : isEq op <;> rw [hn] at hc <;> first | (cases hc; done) | (injection hc with hc; subst hc; cases hv)
   ·cases hn : isEq op <;> rw [hn] at hc <;> first | (cases hc; done) | (injection hc with hc; subst hc; cases hv)
   ·split at hc
    ·split at hc
     ·cases hc
     ·injection hc with hc; subst hc; cases hv
    ·cases hc
  ·cases hc
 case unOp op t y => cases hy : compOpd y <;> rw [hy] at hc <;> first | (cases hc; done) | (injection hc with hc; subst hc; cases hv)
 case convert src dst y =>
  cases hy : compOpd y <;> rw [hy] at hc <;> first | (cases hc; done) | skip
  simp only [Option.bind_some] at hc
  unfold compConv at hc
  split at hc
  ·injection hc with hc; subst hc; cases hv
  ·injection hc with hc; subst hc; cases hv
  ·injection hc with hc; subst hc; cases hv
  ·split at hc
   ·injection hc with hc; subst hc; cases hv
   ·cases hc
  ·cases hc
 case makeFunc fn first captured =>
  cases fn <;> simp only at hc <;> try (cases hc; done)
  split at hc
  ·injection hc with hc; subst hc; cases hv
  ·cases hc
 case makeMap t r =>
  cases r <;> simp only at hc
  ·injection hc with hc; subst hc
   simp only [opW] at hv
   injection hv with hv; injection hv with hv1 hv2; subst hv1; subst hv2
   obtain ⟨hi, hf⟩ := hown (b + k) rfl
   exact new_sound h hi hf hd (.map [] 0) (.map #[] 0) (.map ⟨rfl, by simp⟩) (.map (some w.heap.size)) (by simp [execOp, ho, Instr.makeMap]) (fun G' _ hρ => .map hρ)
  ·cases hc
 case slice t y lo hi mx =>
  cases mx <;> simp only at hc
  ·split at hc
   ·unfold compSlice at hc
    split at hc
    ·injection hc with hc; subst hc; cases hv
    ·cases hs : sizeT P _ <;> rw [hs] at hc <;> first | (cases hc; done) | (injection hc with hc; subst hc; cases hv)
    ·cases hs : sizeT P _ <;> rw [hs] at hc <;> first | (cases hc; done) | (injection hc with hc; subst hc; cases hv)
    ·cases hc
   ·cases hc
  ·cases hc
 case fieldAddr t y f =>
  split at hc
  ·split at hc
   ·split at hc
    ·split at hc
     ·injection hc with hc; subst hc; cases hv
     ·cases hc
    ·cases hc
   ·cases hc
  ·cases hc
 case field t y f =>
  split at hc
  ·split at hc
   ·split at hc
    ·injection hc with hc; subst hc; cases hv
    ·cases hc
   ·cases hc
  ·cases hc
 case indexAddr t y i =>
  split at hc
  ·cases hs : sizeT P _ <;> rw [hs] at hc <;> first | (cases hc; done) | (injection hc with hc; subst hc; cases hv)
  ·cases hs : sizeT P _ <;> rw [hs] at hc <;> first | (cases hc; done) | (injection hc with hc; subst hc; cases hv)
  ·cases hc
 case index t y i =>
  split at hc
  ·injection hc with hc; subst hc; cases hv
  ·split at hc
   ·injection hc with hc; subst hc; cases hv
   ·cases hc
  ·cases hc
 case lookup t m i ok =>
  split at hc
  ·split at hc
   ·injection hc with hc; subst hc; cases hv
   ·cases hc
  ·cases hc
 case mapUpdate t m i z =>
  split at hc
  ·rename_i kt et m' i' z' hu hm hi hz
   cases hkt : mapKeyT P kt with
   | none => rw [hkt] at hc; cases hc
   | some kk =>
    rw [hkt] at hc; injection hc with hc; subst hc
    simp only [opW, keyed] at hv
    split at hv
    case isFalse => cases hv
    rename_i hkey
    obtain ⟨rk, hrk⟩ := Option.isSome_iff_exists.1 hkey
    cases hup : updM kk s (ev e i') (ev e z') (ev e m') with
    | none => rw [hup] at hv; cases hv
    | some s1 =>
     rw [hup] at hv; injection hv with hv; injection hv with hv1 hv2; subst hv1; subst hv2
     exact upd_sound h hop hd (.inl ho) hu hm hi hz hkt hrk hup
  ·cases hc
 case insert t m i z =>
  split at hc
  ·rename_i kt et m' i' z' hu hm hi hz
   cases hkt : mapKeyT P kt with
   | none => rw [hkt] at hc; cases hc
   | some kk =>
    rw [hkt] at hc; injection hc with hc; subst hc
    simp only [opW, keyed] at hv
    split at hv
    case isFalse => cases hv
    rename_i hkey
    obtain ⟨rk, hrk⟩ := Option.isSome_iff_exists.1 hkey
    cases hup : updM kk s (ev e i') (ev e z') (ev e m') with
    | none => rw [hup] at hv; cases hv
    | some s1 =>
     rw [hup] at hv; injection hv with hv; injection hv with hv1 hv2; subst hv1; subst hv2
     exact upd_sound h hop hd (.inr ho) hu hm hi hz hkt hrk hup
  ·cases hc
 case mapEntry t m i =>
  split at hc
  ·rename_i kt et m' i' hu hm hi
   split at hc
   ·rename_i kk zz hkt hz
    injection hc with hc; subst hc
    simp only [opW, keyed] at hv
    split at hv
    case isFalse => cases hv
    rename_i hkey
    obtain ⟨rk, hrk⟩ := Option.isSome_iff_exists.1 hkey
    exact touch_sound h hop hd ho hu hm hi hkt hz hrk hv
   ·cases hc
  ·cases hc
 case entryStore t m i z =>
  split at hc
  ·rename_i m' i' z' hm hi hz
   injection hc with hc; subst hc
   simp only [opW] at hv
   cases hup : stampM s (ev e i') (ev e z') (ev e m') with
   | none => rw [hup] at hv; cases hv
   | some s1 =>
    rw [hup] at hv; injection hv with hv; injection hv with hv1 hv2; subst hv1; subst hv2
    exact stamp_sound h hop hd ho hm hi hz hup
  ·cases hc
 case extract y n => cases hy : compOpd y <;> rw [hy] at hc <;> first | (cases hc; done) | (injection hc with hc; subst hc; cases hv)
 case call c =>
  unfold compCall at hc
  split at hc
  ·split at hc
   ·injection hc with hc; subst hc; cases hv
   ·cases hc
  ·split at hc
   ·rename_i y t hargs htys
    cases hy : compOpd y <;> rw [hy] at hc <;> first | (cases hc; done) | skip
    simp only [Option.bind_some] at hc
    unfold compLen at hc
    split at hc
    ·injection hc with hc; subst hc; cases hv
    ·injection hc with hc; subst hc; cases hv
    ·injection hc with hc; subst hc; cases hv
    ·injection hc with hc; subst hc; cases hv
    ·cases hc
   ·cases hc
  ·rename_i hcal
   split at hc
   ·rename_i y z t u hargs htys
    split at hc
    ·rename_i y' z' hy hz
     unfold compAppend at hc
     split at hc
     ·cases hc
     ·rename_i el ud hni hu hu2
      split at hc
      ·rename_i sz bytes zv hsz hby hzv
       split at hc
       ·rename_i hcond
        injection hc with hc; subst hc
        simp only [opW] at hv
        split at hv
        ·rename_i ow es new hes hnew
         exact append_sound h hop hd ho hcal hargs htys hu hu2 (fun kq e1 => hni kq e1) hsz hby hzv hcond.1 hcond.2.1 hcond.2.2 hy hz hes hnew hv (hown (b + k) rfl)
        ·cases hv
       ·cases hc
      ·cases hc
     ·cases hc
    ·cases hc
   ·cases hc
  ·split at hc
   ·split at hc
    ·injection hc with hc; subst hc; cases hv
    ·cases hc
   ·cases hc
  ·split at hc
   ·split at hc
    ·injection hc with hc; subst hc; cases hv
    ·cases hc
   ·cases hc
  ·cases hc
 case defer c =>
  split at hc
  ·rename_i f hcal
   split at hc
   ·rename_i f' l hf hl
    injection hc with hc; subst hc
    simp only [opW] at hv
    have vf := hop.opd hf
    have vl := hop.opds hl
    generalize hq : ev e f' = q at *
    cases q <;> simp only at hv <;> try (cases hv; done)
    rename_i g first captured
    injection hv with hv; injection hv with hv1 hv2; subst hv1; subst hv2
    obtain ⟨p, r, hp, h1, h2⟩ := vf.func_inv
    have hrun : (execOp a.eval o).run P w = .ok (.defer { target := .fn (.func g) r, args := p ++ c.args.map a.eval }) w := by
     simp only [execOp, ho, resolve, hcal, hp, Deferred.ofValue, Sem.run_bind, Sem.run_pure, Result.andThen_ok]
    refine ⟨undef, w, G, { target := .fn (.func g) r, args := p ++ c.args.map a.eval } :: a.defers, fun next Q hq => by rw [hrun]; exact hq, VR.udf_, .refl G, ?_, ⟨⟨r, rfl, ?_⟩, hd⟩, .refl G _ _⟩
    ·exact h.state (Nat.le_refl _) (fun _ _ _ => rfl)
    ·have : (p ++ Array.map a.eval c.args ++ r).toList = p.toList ++ c.args.toList.map a.eval ++ r.toList := by simp
     rw [this]
     exact (h1.append vl).append h2
   ·cases hc
  ·cases hc
end
/-- The cells that were there at first never turn. -/
def Old (B : Nat) (w0 : World) (G : Gh) : Prop := ∀ a v, a.block < B → w0.cell? a = some v → G.C a = some v
theorem Old.mono {B : Nat} {w0 : World} {G G' : Gh} (h : Old B w0 G) (k : G.Le G') : Old B w0 G' := fun a v h1 h2 => k.C a v (h a v h1 h2)
/-- Slots, state, deferred calls; how many slots. -/
structure Rel (nt B : Nat) (w0 : World) (G : Gh) (e : AEnv) (s : ASt) (a : Act) (w : World) : Prop where
 sim : Sim B w0 G s w
 opd : OpdR G e a
 dfr : DfrR G s.dfr a.defers
 size : a.tmps.size = nt
 old : Old B w0 G
/-- A function's call, in the model. -/
def Enters (P : Program) (f : Nat) : Prop := ∃ fn, P.funcs[f]? = some fn ∧ (fn.name == "runtime.NumGoroutine") = false ∧ fn.body.isSome = true
def CallR (P : Program) (B : Nat) (w0 : World) (f : Nat) (args : List AV) (s : ASt) (v : AV) (s' : ASt) : Prop :=
 ∀ (G : Gh) (w : World) (cargs : Array Value), Sim B w0 G s w → Old B w0 G → VRs G args cargs.toList →
  Calls P f cargs w fun e w' => ∃ cv G', e = .returned cv ∧ VR G' v cv ∧ G.Le G' ∧ Sim B w0 G' s' w' ∧ G.Keep s.ctr none G'
def CallOK (P : Program) (B : Nat) (w0 : World) (call : Caller) : Prop :=
 ∀ f args s v s', call f args s = some (v, s') → Enters P f ∧ s'.dfr = s.dfr ∧ s.ctr ≤ s'.ctr ∧ CallR P B w0 f args s v s'
section
variable {P : Program} {nt B : Nat} {w0 : World} {G : Gh} {e : AEnv} {s : ASt} {a : Act} {w : World}
theorem get_put (e : AEnv) (d : Nat) (v : AV) (t : Nat) : (AEnv.put e (some d) v).get t = if d = t then v else e.get t := rfl
theorem OpdR.put (h : OpdR G e a) {dst : Option Nat} {v : AV} {cv : Value} (hv : VR G v cv) (hd : ∀ d, dst = some d → d < a.tmps.size) : OpdR G (e.put dst v) (a.put dst cv) := by
 cases dst with
 | none => exact h
 | some d =>
  intro t
  rw [get_put]
  simp only [Act.put]
  by_cases e1 : d = t
  ·subst e1
   rw [if_pos rfl]
   have : (a.tmps.setIfInBounds d cv).getD d undef = cv := by
    rw [Array.getD_eq_getD_getElem?, Array.getElem?_setIfInBounds, if_pos rfl, if_pos (hd d rfl)]; rfl
   rw [this]; exact hv
  ·rw [if_neg e1]
   have : (a.tmps.setIfInBounds d cv).getD t undef = a.tmps.getD t undef := by
    rw [Array.getD_eq_getD_getElem?, Array.getElem?_setIfInBounds, if_neg e1, Array.getD_eq_getD_getElem?]
   rw [this]; exact h t
theorem put_size (a : Act) (dst : Option Nat) (v : Value) : (a.put dst v).tmps.size = a.tmps.size := by
 cases dst <;> simp [Act.put]
theorem put_defers (a : Act) (dst : Option Nat) (v : Value) : (a.put dst v).defers = a.defers := by
 cases dst <;> rfl
theorem wanted_eq (h : OpdR G e a) {ops : Array Oper} {o : Oper} {g : Option (Nat × Bool)} (hg : compGuard ops o.guard = some g) : Region.wanted o (yielded ops a.tmps) = wanted e g := by
 unfold Region.wanted wanted
 cases ho : o.guard with
 | none => rw [ho] at hg; simp only [compGuard] at hg; injection hg with hg; subst hg; rfl
 | some jw =>
  obtain ⟨j, want⟩ := jw
  rw [ho] at hg
  simp only [compGuard] at hg
  cases hs : slotOf ops j with
  | none => rw [hs] at hg; cases hg
  | some t =>
   rw [hs] at hg; injection hg with hg; subst hg
   unfold slotOf at hs
   simp only [yielded, hs, Option.bind_some]
   have ht := h t
   rw [Array.getD_eq_getD_getElem?] at ht
   cases hq : a.tmps[t]? with
   | none =>
    rw [hq] at ht
    simp only [Option.getD_none] at ht
    generalize e.get t = q at *
    cases q <;> first | rfl | (exact absurd ht.bool_inv (by simp [undef]))
   | some c =>
    rw [hq] at ht
    simp only [Option.getD_some] at ht
    generalize e.get t = q at *
    cases ht <;> first | rfl | (rename_i b'; cases b' <;> cases want <;> rfl)
/-- What stands behind a step. -/
def Next (P : Program) (nt B : Nat) (w0 : World) (G : Gh) (n : Nat) (own : Option Nat) (e : AEnv) (s : ASt) (K : Act → World → Prop) : Prop :=
 ∀ a w G', G.Le G' → G.Keep n own G' → Rel nt B w0 G' e s a w → K a w
theorem kd_call {k : Nat} {op : Op} {x : AOp} (hc : compOp P k op = some x) (hk : x.kd = .c) : ∃ c f args f' args', op = .call c ∧ c.callee = .value f ∧ c.args.toList = args ∧ x = .call f' args' ∧ compOpd f = some f' ∧ compOpds args = some args' := by
 cases x <;> simp [AOp.kd] at hk
 rename_i f' args'
 cases op <;> simp only [compOp] at hc <;> try (cases hc; done)
 case call c =>
  refine ⟨c, ?_⟩
  unfold compCall at hc
  split at hc
  ·rename_i f hcal
   split at hc
   ·rename_i p q hp hq
    injection hc with hc; injection hc with h1 h2; subst h1; subst h2
    exact ⟨f, _, _, _, rfl, hcal, rfl, rfl, hp, hq⟩
   ·cases hc
  ·split at hc
   ·cases hy : compOpd _ with
    | none => rw [hy] at hc; cases hc
    | some y' =>
     rw [hy] at hc
     simp only [Option.bind_some, compLen] at hc
     split at hc <;> first | cases hc | (injection hc with hc; cases hc)
   ·cases hc
  ·split at hc
   ·split at hc
    ·unfold compAppend at hc
     split at hc
     ·cases hc
     ·split at hc
      ·split at hc
       ·injection hc with hc; cases hc
       ·cases hc
      ·cases hc
     ·cases hc
    ·cases hc
   ·cases hc
  ·split at hc
   ·split at hc
    ·injection hc with hc; cases hc
    ·cases hc
   ·cases hc
  ·split at hc
   ·split at hc
    ·injection hc with hc; cases hc
    ·cases hc
   ·cases hc
  ·cases hc
 case makeFunc fn first captured =>
  cases fn <;> simp only at hc <;> try (cases hc; done)
  split at hc
  ·injection hc with hc; cases hc
  ·cases hc
 case makeMap t r => cases r <;> simp only at hc <;> first | (cases hc; done) | (injection hc with hc; cases hc)
 case slice t y lo hi mx =>
  cases mx <;> simp only at hc <;> try (cases hc; done)
  simp only [compSlice] at hc
  repeat' (first
   | (cases hc; done)
   | (injection hc with hc; cases hc; done)
   | (simp only [Option.map_eq_some_iff] at hc; obtain ⟨_, _, hc⟩ := hc; cases hc; done)
   | split at hc)
 all_goals (try simp only [compBin] at hc)
 all_goals (repeat' (first
  | (cases hc; done)
  | (injection hc with hc; cases hc; done)
  | (simp only [Option.map_eq_some_iff] at hc; obtain ⟨_, _, hc⟩ := hc; cases hc; done)
  | (simp only [Option.bind_eq_some_iff, compConv] at hc; obtain ⟨_, _, hc⟩ := hc)
  | split at hc))
/-- One operation, at a state that tells what it needs. -/
theorem step_sound {call : Caller} (hcall : CallOK P B w0 call) {ops : Array Oper} {i k b : Nat} {o : Oper} {ao : AOper} (hi : ops[i]? = some o) (hc : compOper P ops nt k o = some ao) (h : Rel nt B w0 G e s a w)
  (hown : ∀ n, ao.op.ownId b = some n → n < s.ctr ∧ G.Fresh n) {e1 : AEnv} {s1 : ASt} (hs : stepOp call b ao e s = some (e1, s1)) {Q : Exit → Act → World → Prop} {K : Act → World → Prop}
  (hK : Next P nt B w0 G s.ctr (ao.op.ownId b) e1 s1 K) : wpOp P ops Q i K a w := by
 unfold compOper at hc
 split at hc
 case h_2 => cases hc
 rename_i x g hx hg
 split at hc
 case isFalse => cases hc
 rename_i hdst
 injection hc with hc; subst hc
 have hd : ∀ d, o.dst = some d → d < a.tmps.size := by
  intro d hd
  rw [hd] at hdst
  rw [h.size]
  simpa [dstOK] using hdst
 simp only [wpOp, hi]
 rw [wanted_eq h.opd hg]
 unfold stepOp at hs
 simp only at hs
 by_cases hw : wanted e g = true
 ·rw [if_pos hw] at hs ⊢
  left
  have fin : ∀ v, OpOK P B w0 G s w o a (x.ownId b) v s1 → e1 = e.put o.dst v → o.wp P a w K Q := by
   rintro v ⟨cv, w', G', ds, h1, h2, h3, h4, h5, h6⟩ rfl
   refine h1 K Q (hK _ w' G' h3 h6 ⟨h4, ?_, ?_, ?_, ?_⟩)
   ·exact OpdR.put (a := { a with defers := ds }) (h.opd.mono h3) h2 hd
   ·rw [put_defers]; exact h5
   ·rw [put_size]; exact h.size
   ·exact h.old.mono h3
  cases hr : runOp call b x e s with
  | none => rw [hr] at hs; cases hs
  | some r =>
   rw [hr] at hs
   obtain ⟨v, s2⟩ := r
   injection hs with hs; injection hs with hs1 hs2; subst hs1; subst hs2
   unfold runOp at hr
   split at hr
   ·rename_i hk
    cases hov : opV (ev e) b s.heap x with
    | none => rw [hov] at hr; cases hr
    | some v' =>
     rw [hov] at hr; injection hr with hr; injection hr with hr1 hr2; subst hr1; subst hr2
     exact fin _ (opV_sound h.sim h.opd h.dfr hx hk hov hown) rfl
   ·exact fin _ (opW_sound h.sim h.opd h.dfr hx hr hown) rfl
   ·rename_i hk
    obtain ⟨c, f, args, f', args', ho, hcal, hal, rfl, hf, ha⟩ := kd_call hx hk
    simp only at hr
    cases hcv : callV (ev e) f' args' with
    | none => rw [hcv] at hr; cases hr
    | some gl =>
     obtain ⟨g', l⟩ := gl
     rw [hcv] at hr
     simp only at hr
     obtain ⟨⟨fn, hfn, hname, hbody⟩, hdf, hctr, hcr⟩ := hcall g' l s v s2 hr
     unfold callV at hcv
     have vf := h.opd.opd hf
     have vl := h.opd.opds ha
     generalize hq : ev e f' = q at *
     cases q <;> simp only at hcv <;> try (cases hcv; done)
     rename_i g0 first captured
     injection hcv with hcv; injection hcv with e1 e2; subst e1; subst e2
     obtain ⟨p, r, hp, h1, h2⟩ := vf.func_inv
     have hargs : VRs G (first ++ args'.map (ev e) ++ captured) ((p ++ c.args.map a.eval) ++ r).toList := by
      have : (p ++ Array.map a.eval c.args ++ r).toList = p.toList ++ c.args.toList.map a.eval ++ r.toList := by simp
      rw [this, hal]
      exact (h1.append vl).append h2
     have hrun : (execOp a.eval o).run P w = .ok (.enter g0 (p ++ c.args.map a.eval ++ r)) w := by
      simp only [execOp, ho, resolve, hcal, hp, Deferred.ofValue, Sem.run_bind, Sem.run_pure, Result.andThen_ok, invoke, callFunc, run_program, hfn, hname, Bool.false_eq_true, if_false]
      rw [if_neg (by simp [Option.isSome_iff_ne_none.1 hbody])]
      rfl
     unfold Oper.wp
     rw [hrun, Oper.upon_enter]
     refine (hcr G w _ h.sim h.old hargs).mono ?_
     rintro en w' ⟨cv, G', rfl, h3, h4, h5, h6⟩
     refine hK _ w' G' h4 ?_ ⟨h5, ?_, ?_, ?_, ?_⟩
     ·exact fun i hi _ hf => h6 i hi (by simp) hf
     ·exact OpdR.put (h.opd.mono h4) h3 hd
     ·rw [put_defers, hdf]; exact h.dfr.mono h4
     ·rw [put_size]; exact h.size
     ·exact h.old.mono h4
 ·rw [if_neg hw] at hs
  simp only [hw, Bool.false_eq_true, if_false]
  injection hs with hs; injection hs with hs1 hs2; subst hs1; subst hs2
  refine hK _ w G (.refl G) (.refl G _ _) ⟨h.sim, OpdR.put h.opd VR.udf_ hd, ?_, ?_, h.old⟩
  ·rw [put_defers]; exact h.dfr
  ·rw [put_size]; exact h.size
end
/-! ### What an operation depends on -/
theorem map_congr' {ρ ρ' : AOpd → AV} {l : List AOpd} (h : ∀ x ∈ l, ρ x = ρ' x) : l.map ρ = l.map ρ' := List.map_congr_left h
theorem fillV_congr {ρ ρ' : AOpd → AV} : ∀ (parts : List (Nat × Nat × AOpd)) (l : List AV), (∀ x ∈ parts.map (·.2.2), ρ x = ρ' x) → fillV ρ l parts = fillV ρ' l parts
 | [], _, _ => rfl
 | (off, sz, x) :: ps, l, h => by
  have hx : ρ x = ρ' x := h x (by simp)
  simp only [fillV, hx]
  split
  ·exact fillV_congr ps _ fun y hy => h y (by simp only [List.map_cons, List.mem_cons]; exact .inr hy)
  ·rfl
theorem partsV_congr {ρ ρ' : AOpd → AV} {sz : Nat} : ∀ (l : List AOpd), (∀ x ∈ l, ρ x = ρ' x) → partsV ρ sz l = partsV ρ' sz l
 | [], _ => rfl
 | x :: l, h => by
  have hx : ρ x = ρ' x := h x (by simp)
  simp only [partsV, hx, partsV_congr l fun y hy => h y (by simp [hy])]
theorem boundsV_congr {ρ ρ' : AOpd → AV} {n m : Nat} {lo hi : Option AOpd} (h1 : ∀ x ∈ lo.toList, ρ x = ρ' x) (h2 : ∀ x ∈ hi.toList, ρ x = ρ' x) : boundsV ρ n m lo hi = boundsV ρ' n m lo hi := by
 unfold boundsV
 cases lo <;> cases hi <;> simp_all
theorem slV_congr {ρ ρ' : AOpd → AV} {sz : Nat} {lo hi : Option AOpd} {v : AV} (h1 : ∀ x ∈ lo.toList, ρ x = ρ' x) (h2 : ∀ x ∈ hi.toList, ρ x = ρ' x) : slV ρ sz lo hi v = slV ρ' sz lo hi v := by
 cases v <;> simp only [slV, boundsV_congr h1 h2]
theorem slStrV_congr {ρ ρ' : AOpd → AV} {lo hi : Option AOpd} {v : AV} (h1 : ∀ x ∈ lo.toList, ρ x = ρ' x) (h2 : ∀ x ∈ hi.toList, ρ x = ρ' x) : slStrV ρ lo hi v = slStrV ρ' lo hi v := by
 cases v <;> simp only [slStrV, boundsV_congr h1 h2]
theorem slArrV_congr {ρ ρ' : AOpd → AV} {n sz : Nat} {lo hi : Option AOpd} {v : AV} (h1 : ∀ x ∈ lo.toList, ρ x = ρ' x) (h2 : ∀ x ∈ hi.toList, ρ x = ρ' x) : slArrV ρ n sz lo hi v = slArrV ρ' n sz lo hi v := by
 cases v <;> simp only [slArrV, boundsV_congr h1 h2]
theorem opKey_congr {ρ ρ' : AOpd → AV} {b : Nat} {x : AOp} (h : ∀ y ∈ x.opds, ρ y = ρ' y) : opKey ρ b x = opKey ρ' b x := by
 cases x <;> simp only [opKey, AOp.opds, List.mem_cons, List.mem_nil_iff, or_false, forall_eq_or_imp, forall_eq] at h ⊢
 all_goals first | rfl | (rw [h]; done) | (rw [h.1]; done)
theorem ldV_congr {agg : Bool} {sz : Nat} {h h' : Nat → Option AObj} {v : AV} (hk : ∀ k, ldKey v = some k → h k = h' k) : ldV agg sz h v = ldV agg sz h' v := by
 cases v <;> simp only [ldV]
 rw [hk _ rfl]
theorem strOfV_congr {h h' : Nat → Option AObj} {v : AV} (hk : ∀ k, strKey v = some k → h k = h' k) : strOfV h v = strOfV h' v := by
 cases v <;> simp only [strOfV]
 rw [hk _ rfl]
theorem lookM_congr {t : KeyT} {z : AV} {ok : Bool} {k : AV} {h h' : Nat → Option AObj} {v : AV} (hk : ∀ k, mapKey v = some k → h k = h' k) : lookM t z ok h k v = lookM t z ok h' k v := by
 cases v <;> simp only [lookM]
 rw [hk _ rfl]
theorem lenMapV_congr {h h' : Nat → Option AObj} {v : AV} (hk : ∀ k, mapKey v = some k → h k = h' k) : lenMapV h v = lenMapV h' v := by
 cases v <;> simp only [lenMapV]
 rw [hk _ rfl]
theorem opV_congr {ρ ρ' : AOpd → AV} {b : Nat} {h h' : Nat → Option AObj} {x : AOp} (ho : ∀ y ∈ x.opds, ρ y = ρ' y) (hk : ∀ k, opKey ρ b x = some k → h k = h' k) : opV ρ b h x = opV ρ' b h' x := by
 cases x <;> simp only [opV, opKey, AOp.opds, List.mem_cons, List.mem_nil_iff, or_false, forall_eq_or_imp, forall_eq, Option.some.injEq, forall_eq'] at ho hk ⊢
 case build => rw [fillV_congr _ _ ho]
 case buildSlice => rw [partsV_congr _ ho]
 case mkfunc =>
  rw [map_congr' fun y hy => ho y (List.mem_append_left _ hy), map_congr' fun y hy => ho y (List.mem_append_right _ hy)]
 case load => rw [← ho, ldV_congr hk]
 case convBytes => rw [← ho, strOfV_congr hk]
 case lookup => rw [← ho.1, ← ho.2, lookM_congr hk]
 case lenMap => rw [← ho, lenMapV_congr hk]
 case sliceStr => rw [ho.1, slStrV_congr (fun y hy => ho.2 y (List.mem_append_left _ hy)) fun y hy => ho.2 y (List.mem_append_right _ hy)]
 case sliceSl => rw [ho.1, slV_congr (fun y hy => ho.2 y (List.mem_append_left _ hy)) fun y hy => ho.2 y (List.mem_append_right _ hy)]
 case sliceArr => rw [ho.1, slArrV_congr (fun y hy => ho.2 y (List.mem_append_left _ hy)) fun y hy => ho.2 y (List.mem_append_right _ hy)]
 case alloc => rw [hk]
 case pick => rw [ho.1, ho.2.1, ho.2.2]
 all_goals first | rfl | (rw [ho]; done) | (rw [ho.1, ho.2]; done)
theorem opW_congr {ρ ρ' : AOpd → AV} {b : Nat} {s : ASt} {x : AOp} (ho : ∀ y ∈ x.opds, ρ y = ρ' y) : opW ρ b s x = opW ρ' b s x := by
 cases x <;> simp only [opW, AOp.opds, List.mem_cons, List.mem_nil_iff, or_false, forall_eq_or_imp, forall_eq] at ho ⊢
 case mapUpd => rw [ho.1, ho.2.1, ho.2.2]
 case entrySet => rw [ho.1, ho.2.1, ho.2.2]
 case defer => rw [ho.1, map_congr' ho.2]
 all_goals first | rfl | (rw [ho]; done) | (rw [ho.1, ho.2]; done)
theorem callV_congr {ρ ρ' : AOpd → AV} {f : AOpd} {args : List AOpd} (ho : ∀ y ∈ (AOp.call f args).opds, ρ y = ρ' y) : callV ρ f args = callV ρ' f args := by
 simp only [AOp.opds, List.mem_cons, forall_eq_or_imp] at ho
 unfold callV
 rw [ho.1, map_congr' ho.2]
theorem opKey_looks {ρ : AOpd → AV} {b k : Nat} {x : AOp} (h : opKey ρ b x = some k) : x.looks = true ∧ x.kd = .v := by
 cases x <;> first | (exact ⟨rfl, rfl⟩) | cases h
theorem turns_iff (x : AOp) : x.turns = false ↔ x.kd = .v := by
 cases x <;> simp [AOp.turns, AOp.kd]
theorem updM_ctr {t : KeyT} {s s' : ASt} {k v m : AV} (h : updM t s k v m = some s') : s'.ctr = s.ctr := by
 cases m <;> simp only [updM] at h <;> try (cases h; done)
 split at h
 ·simp only [Option.map_eq_some_iff] at h
  obtain ⟨_, _, rfl⟩ := h; rfl
 ·cases h
theorem opW_ctr {ρ : AOpd → AV} {b : Nat} {s s' : ASt} {x : AOp} {v : AV} (h : opW ρ b s x = some (v, s')) : s'.ctr = s.ctr := by
 cases x <;> simp only [opW] at h <;> try (cases h; done)
 case box =>
  split at h
  ·injection h with h; injection h with h1 h2; subst h2; rfl
  ·cases h
 case mkmap => injection h with h; injection h with h1 h2; subst h2; rfl
 case store =>
  simp only [Option.map_eq_some_iff] at h
  obtain ⟨s2, h, h2⟩ := h
  injection h2 with h1 h2; subst h2
  unfold stV at h
  split at h
  ·split at h
   ·split at h
    ·injection h with h; subst h; rfl
    ·cases h
   ·cases h
  ·cases h
 case mapUpd =>
  unfold keyed at h
  split at h
  ·simp only [Option.map_eq_some_iff] at h
   obtain ⟨s2, h, h2⟩ := h
   injection h2 with h1 h2; subst h2
   exact updM_ctr h
  ·cases h
 case mapTouch =>
  unfold keyed at h
  split at h
  ·unfold touchM at h
   split at h
   ·split at h
    ·simp only [Option.map_eq_some_iff] at h
     obtain ⟨_, _, h2⟩ := h
     injection h2 with h1 h2; subst h2; rfl
    ·cases h
   ·cases h
  ·cases h
 case entrySet =>
  simp only [Option.map_eq_some_iff] at h
  obtain ⟨s2, h, h2⟩ := h
  injection h2 with h1 h2; subst h2
  unfold stampM at h
  split at h
  ·split at h
   ·simp only [Option.map_eq_some_iff] at h
    obtain ⟨_, _, h2⟩ := h
    subst h2; rfl
   ·cases h
  ·cases h
 case append =>
  split at h
  ·unfold appV at h
   repeat' (first
    | (cases h; done)
    | (injection h with h; injection h with h1 h2; subst h2; rfl)
    | split at h)
  ·cases h
 case defer =>
  split at h
  ·injection h with h; injection h with h1 h2; subst h2; rfl
  ·cases h
/-! ### Steps -/
def Agree (e e' : AEnv) (l : List Nat) : Prop := ∀ t ∈ l, e.get t = e'.get t
theorem Agree.opds {e e' : AEnv} {o : AOper} (h : Agree e e' o.reads) : ∀ y ∈ o.op.opds, ev e y = ev e' y := by
 intro y hy
 cases y with
 | val v => rfl
 | tmp t => exact h t (List.mem_append_left _ (List.mem_filterMap.2 ⟨.tmp t, hy, rfl⟩))
theorem Agree.wanted {e e' : AEnv} {o : AOper} (h : Agree e e' o.reads) : wanted e o.guard = wanted e' o.guard := by
 cases hg : o.guard with
 | none => rfl
 | some p =>
  obtain ⟨t, b⟩ := p
  have := h t (by unfold AOper.reads; rw [hg]; simp)
  simp only [Abs.wanted, this]
/-- What a step gives, but for the slots that it does not turn. -/
noncomputable def stepV (call : Caller) (b : Nat) (o : AOper) (e : AEnv) (s : ASt) : Option (AV × ASt) :=
 if wanted e o.guard then runOp call b o.op e s else some (udf, s)
theorem stepOp_eq (call : Caller) (b : Nat) (o : AOper) (e : AEnv) (s : ASt) : stepOp call b o e s = (stepV call b o e s).map fun r => (e.put o.dst r.1, r.2) := by
 unfold stepOp stepV
 split <;> rfl
def stepKey (b : Nat) (o : AOper) (e : AEnv) : Option Nat := if wanted e o.guard then opKey (ev e) b o.op else none
/-- A step that only looks, at another state. -/
theorem stepV_v {call : Caller} {b : Nat} {o : AOper} {e e' : AEnv} {s s' : ASt} {r : AV × ASt} (hv : o.op.turns = false) (he : Agree e e' o.reads) (hk : ∀ k, stepKey b o e = some k → s.heap k = s'.heap k)
  (h : stepV call b o e s = some r) : stepV call b o e' s' = some (r.1, s') ∧ r.2 = s := by
 unfold stepV at *
 rw [← he.wanted]
 unfold stepKey at hk
 split at h
 ·rename_i hw
  rw [if_pos hw] at hk
  rw [if_pos hw]
  unfold runOp at *
  rw [(turns_iff _).1 hv] at h ⊢
  simp only at h ⊢
  rw [← opV_congr he.opds hk]
  simp only [Option.map_eq_some_iff] at h ⊢
  obtain ⟨v, hv, rfl⟩ := h
  exact ⟨⟨v, hv, rfl⟩, rfl⟩
 ·rename_i hw
  rw [if_neg hw]
  injection h with h; subst h
  exact ⟨rfl, rfl⟩
theorem stepV_congr {call : Caller} {b : Nat} {o : AOper} {e e' : AEnv} {s : ASt} (he : Agree e e' o.reads) : stepV call b o e s = stepV call b o e' s := by
 unfold stepV
 rw [← he.wanted]
 split
 ·unfold runOp
  split
  ·rw [opV_congr he.opds fun _ _ => rfl]
  ·rw [opW_congr he.opds]
  ·have := he.opds
   split
   ·rename_i f args heq
    rw [heq] at this
    rw [callV_congr this]
   ·rfl
 ·rfl
theorem stepV_turnless {call : Caller} {b : Nat} {o : AOper} {e : AEnv} {s : ASt} {r : AV × ASt} (hv : o.op.turns = false) (h : stepV call b o e s = some r) : r.2 = s :=
 (stepV_v (e' := e) (s' := s) hv (fun _ _ => rfl) (fun _ _ => rfl) h).2
theorem stepV_ctr {P : Program} {B : Nat} {w0 : World} {call : Caller} (hcall : CallOK P B w0 call) {b : Nat} {o : AOper} {e : AEnv} {s : ASt} {r : AV × ASt} (h : stepV call b o e s = some r) : s.ctr ≤ r.2.ctr := by
 unfold stepV at h
 split at h
 ·unfold runOp at h
  split at h
  ·simp only [Option.map_eq_some_iff] at h
   obtain ⟨_, _, rfl⟩ := h; exact Nat.le_refl _
  ·obtain ⟨v, s'⟩ := r
   exact Nat.le_of_eq (opW_ctr h).symm
  ·split at h
   ·split at h
    ·rename_i g l _
     obtain ⟨v, s'⟩ := r
     exact (hcall g l s v s' h).2.2.1
    ·cases h
   ·cases h
 ·injection h with h; subst h; exact Nat.le_refl _
/-- The states of a run, one by one. -/
def Trace (call : Caller) (b : Nat) (l : List AOper) (i : Nat) (E : Nat → AEnv) (S : Nat → ASt) (V : Nat → AV) (logs : List Log) : Prop :=
 ∀ j o, l[j]? = some o → stepV call b o (E j) (S j) = some (V j, S (j + 1)) ∧ E (j + 1) = (E j).put o.dst (V j) ∧ Log.mk (i + j) (stepKey b o (E j)) (S j).heap (S (j + 1)).heap ∈ logs
theorem runOps_trace {call : Caller} {b : Nat} : ∀ {l : List AOper} {i : Nat} {e e' : AEnv} {s s' : ASt} {logs : List Log}, runOps call b l i e s = some (e', s', logs) →
  ∃ E S V, E 0 = e ∧ S 0 = s ∧ E l.length = e' ∧ S l.length = s' ∧ Trace call b l i E S V logs
 | [], i, e, e', s, s', logs, h => by
  simp only [runOps] at h
  injection h with h; injection h with h1 h; injection h with h2 h3
  subst h1; subst h2
  exact ⟨fun _ => e, fun _ => s, fun _ => udf, rfl, rfl, rfl, rfl, fun j o hj => by simp at hj⟩
 | o :: l, i, e, e', s, s', logs, h => by
  simp only [runOps] at h
  split at h
  case h_2 => cases h
  rename_i e1 s1 h1
  split at h
  case h_2 => cases h
  rename_i e2 s2 lg h2
  injection h with h; injection h with h3 h; injection h with h4 h5
  subst h3; subst h4; subst h5
  obtain ⟨E, S, V, hE, hS, hE', hS', ht⟩ := runOps_trace h2
  rw [stepOp_eq] at h1
  simp only [Option.map_eq_some_iff] at h1
  obtain ⟨r, hr, hr2⟩ := h1
  injection hr2 with hr3 hr4; subst hr3; subst hr4
  refine ⟨fun j => match j with | 0 => e | j + 1 => E j, fun j => match j with | 0 => s | j + 1 => S j, fun j => match j with | 0 => r.1 | j + 1 => V j, rfl, rfl, hE', hS', ?_⟩
  intro j p hj
  cases j with
  | zero =>
   simp only [List.getElem?_cons_zero, Option.some.injEq] at hj
   subst hj
   refine ⟨?_, ?_, ?_⟩
   ·show stepV call b o e s = some (r.1, S 0)
    rw [hr, hS]
   ·exact hE
   ·show Log.mk (i + 0) _ _ (S 0).heap ∈ _
    rw [hS]
    exact List.mem_cons_self
  | succ j =>
   obtain ⟨k1, k2, k3⟩ := ht j p hj
   exact ⟨k1, k2, List.mem_cons_of_mem _ (by rw [show i + (j + 1) = i + 1 + j from by omega]; exact k3)⟩
theorem Trace.le {P : Program} {B : Nat} {w0 : World} {call : Caller} (hcall : CallOK P B w0 call) {b i : Nat} {l : List AOper} {E : Nat → AEnv} {S : Nat → ASt} {V : Nat → AV} {logs : List Log} (ht : Trace call b l i E S V logs) :
  ∀ {p q : Nat}, p ≤ q → q ≤ l.length → (S p).ctr ≤ (S q).ctr := by
 intro p q h hq
 induction q with
 | zero => rw [show p = 0 from by omega]; exact Nat.le_refl _
 | succ q ih =>
  rcases Nat.lt_or_ge p (q + 1) with h' | h'
  ·have hlt : q < l.length := hq
   exact Nat.le_trans (ih (by omega) (by omega)) (stepV_ctr hcall (ht q _ (List.getElem?_eq_getElem hlt)).1)
  ·rw [show p = q + 1 from by omega]; exact Nat.le_refl _
theorem ownId_num (b : Nat) (x : AOp) : x.ownId b = x.num.map (b + ·) := by
 cases x <;> rfl
theorem num_own {x : AOp} {k : Nat} (h : x.num = some k) : x.own = 1 := by
 cases x <;> first | rfl | cases h
/-- The numbers of a region's own objects. -/
theorem numsOK_spec : ∀ {l : List AOper} {k : Nat}, numsOK l k = true → (∀ (j : Nat) (o : AOper) (n : Nat), l[j]? = some o → o.op.num = some n → k ≤ n ∧ n < k + ownSum l) ∧
  ∀ (i j : Nat) (o p : AOper) (n m : Nat), l[i]? = some o → l[j]? = some p → o.op.num = some n → p.op.num = some m → i < j → n < m
 | [], k, h => ⟨fun j o n hj => by simp at hj, fun i j o p n m hi => by simp at hi⟩
 | x :: l, k, h => by
  simp only [numsOK, Bool.and_eq_true] at h
  obtain ⟨h1, h2⟩ := h
  obtain ⟨k1, k2⟩ := numsOK_spec h2
  have hx : ∀ n, x.op.num = some n → n = k := by
   intro n hn
   rw [hn] at h1
   simpa using h1
  constructor
  ·intro j o n hj hn
   cases j with
   | zero =>
    simp only [List.getElem?_cons_zero, Option.some.injEq] at hj
    subst hj
    have := hx n hn
    have := num_own hn
    simp only [ownSum]
    omega
   | succ j =>
    have := k1 j o n hj hn
    simp only [ownSum]
    omega
  ·intro i j o p n m hi hj hn hm hij
   cases j with
   | zero => omega
   | succ j =>
    have := k1 j p m hj hm
    cases i with
    | zero =>
     simp only [List.getElem?_cons_zero, Option.some.injEq] at hi
     subst hi
     have := hx n hn
     have := num_own hn
     omega
    | succ i => exact k2 i j o p n m hi hj hn hm (by omega)
theorem compOps_spec {P : Program} {ops : Array Oper} {nt : Nat} : ∀ {l : List Oper} {k : Nat} {al : List AOper}, compOps P ops nt l k = some al →
  al.length = l.length ∧ ∀ (j : Nat) (o : Oper), l[j]? = some o → ∃ ao k', al[j]? = some ao ∧ compOper P ops nt k' o = some ao
 | [], k, al, h => by simp only [compOps] at h; injection h with h; subst h; exact ⟨rfl, fun j o hj => by simp at hj⟩
 | x :: l, k, al, h => by
  simp only [compOps] at h
  split at h
  case h_2 => cases h
  rename_i a ha
  simp only [Option.map_eq_some_iff] at h
  obtain ⟨r, hr, rfl⟩ := h
  obtain ⟨h1, h2⟩ := compOps_spec hr
  refine ⟨by simp [h1], fun j o hj => ?_⟩
  cases j with
  | zero =>
   simp only [List.getElem?_cons_zero, Option.some.injEq] at hj
   subst hj
   exact ⟨a, k, rfl, ha⟩
  | succ j => exact h2 j o hj
section
variable {P : Program} {nt B : Nat} {w0 : World} {G : Gh} {e : AEnv} {s : ASt} {a : Act} {w : World}
theorem preSet_spec (b : Nat) : ∀ (pre : List (Nat × List AV)) (s : ASt), (preSet b pre s).ctr = s.ctr ∧ (preSet b pre s).dfr = s.dfr ∧ ∀ i, i < b → (preSet b pre s).heap i = s.heap i
 | [], s => ⟨rfl, rfl, fun _ _ => rfl⟩
 | (k, z) :: ps, s => by
  obtain ⟨h1, h2, h3⟩ := preSet_spec b ps (s.set (b + k) (.cells z))
  refine ⟨h1, h2, fun i hi => ?_⟩
  simp only [preSet]
  rw [h3 i hi]
  simp only [ASt.set]
  rw [if_neg (by omega)]
theorem Sim.enter (h : Sim B w0 G s w) (na : Nat) (pre : List (Nat × List AV)) : Sim B w0 G (s.enter na pre) w := by
 obtain ⟨h1, _, h3⟩ := preSet_spec s.ctr pre { s with ctr := s.ctr + na }
 exact h.state (by simp only [ASt.enter, h1]; omega) fun i hi _ => h3 i hi
theorem Rel.enter (h : Rel nt B w0 G e s a w) (na : Nat) (pre : List (Nat × List AV)) : Rel nt B w0 G e (s.enter na pre) a w := by
 obtain ⟨_, h2, _⟩ := preSet_spec s.ctr pre { s with ctr := s.ctr + na }
 refine ⟨h.sim.enter na pre, h.opd, ?_, h.size, h.old⟩
 simp only [ASt.enter, h2]
 exact h.dfr
theorem Rel.drew (h : Rel nt B w0 G e s a w) : Rel nt B w0 G e s a { w with drawn := w.drawn + 1 } := ⟨h.sim.drew, h.opd, h.dfr, h.size, h.old⟩
/-- What a region's compiled operations are. -/
structure RegOK (P : Program) (nt : Nat) (ops : Array Oper) (l : List AOper) : Prop where
 len : l.length = ops.size
 op : ∀ (j : Nat) (o : Oper), ops[j]? = some o → ∃ ao k, l[j]? = some ao ∧ compOper P ops nt k o = some ao
 nums : numsOK l 0 = true
theorem RegOK.get {ops : Array Oper} {l : List AOper} (h : RegOK P nt ops l) {j : Nat} (hj : j < ops.size) : ∃ o ao k, ops[j]? = some o ∧ l[j]? = some ao ∧ compOper P ops nt k o = some ao := by
 have : ops[j]? = some ops[j] := Array.getElem?_eq_getElem hj
 obtain ⟨ao, k, h1, h2⟩ := h.op j _ this
 exact ⟨_, ao, k, this, h1, h2⟩
theorem compRegion_spec {ops : Array Oper} {draw : Bool} {c : ACode} (h : compRegion P nt ops draw = some c) :
  ∃ l pairs, c = .region (ownSum l) (preOf l) l pairs ∧ RegOK P nt ops l ∧ (draw = true → drawOK (ancsFrom ops.toList []) ops.toList l = true ∧ pairs = openPairs (ancsFrom ops.toList []) l) := by
 unfold compRegion at h
 split at h
 case h_2 => cases h
 rename_i l hl
 obtain ⟨h1, h2⟩ := compOps_spec hl
 by_cases hn : numsOK l 0 = false
 ·rw [if_pos hn] at h; cases h
 rw [if_neg hn] at h
 have hR : RegOK P nt ops l := ⟨by simpa using h1, fun j o hj => h2 j o (by simpa using hj), by simpa using hn⟩
 cases draw with
 | false =>
  simp only [Bool.false_eq_true, if_false] at h
  injection h with h; subst h
  exact ⟨l, _, rfl, hR, by simp⟩
 | true =>
  simp only [if_true] at h
  split at h
  ·rename_i hd
   injection h with h; subst h
   exact ⟨l, _, rfl, hR, fun _ => ⟨hd, rfl⟩⟩
  ·cases h
/-- What a run of a region starts from: numbers for what it makes. -/
def Owns (b : Nat) (l : List AOper) (G : Gh) (s : ASt) (D : Nat → Prop) : Prop :=
 ∀ j o n, l[j]? = some o → ¬ D j → o.op.ownId b = some n → n < s.ctr ∧ G.Fresh n
theorem Owns.enter {l : List AOper} (hn : numsOK l 0 = true) (h : Sim B w0 G s w) (pre : List (Nat × List AV)) (D : Nat → Prop) : Owns s.ctr l G (s.enter (ownSum l) pre) D := by
 intro j o n hj _ ho
 rw [ownId_num] at ho
 simp only [Option.map_eq_some_iff] at ho
 obtain ⟨k, hk, rfl⟩ := ho
 have h1 := (numsOK_spec hn).1 j o k hj hk
 refine ⟨?_, h.fresh_ge (by omega)⟩
 obtain ⟨h2, _, _⟩ := preSet_spec s.ctr pre { s with ctr := s.ctr + ownSum l }
 simp only [ASt.enter, h2]
 omega
/-- The numbers of two operations are not the same. -/
theorem nums_ne {l : List AOper} (hn : numsOK l 0 = true) {b i j : Nat} {o p : AOper} {n : Nat} (hi : l[i]? = some o) (hj : l[j]? = some p) (h1 : o.op.ownId b = some n) (h2 : p.op.ownId b = some n) : i = j := by
 rw [ownId_num] at h1 h2
 simp only [Option.map_eq_some_iff] at h1 h2
 obtain ⟨k, hk, e1⟩ := h1
 obtain ⟨m, hm, e2⟩ := h2
 rcases Nat.lt_trichotomy i j with h | h | h
 ·have := (numsOK_spec hn).2 i j o p k m hi hj hk hm h; omega
 ·exact h
 ·have := (numsOK_spec hn).2 j i p o m k hj hi hm hk h; omega
theorem Owns.step {l : List AOper} (hn : numsOK l 0 = true) {b i : Nat} {o : AOper} {G G' : Gh} {s s' : ASt} {D D' : Nat → Prop} (h : Owns b l G s D) (hi : l[i]? = some o) (hk : G.Keep s.ctr (o.op.ownId b) G')
  (hc : s.ctr ≤ s'.ctr) (hD : ∀ j, ¬ D' j → ¬ D j ∧ j ≠ i) : Owns b l G' s' D' := by
 intro j p n hj hd hp
 obtain ⟨h1, h2⟩ := hD j hd
 obtain ⟨h3, h4⟩ := h j p n hj h1 hp
 exact ⟨Nat.lt_of_lt_of_le h3 hc, hk n h3 (fun he => h2 (nums_ne hn hi hj he hp).symm) h4⟩
/-- The numbers below the region's stay. -/
theorem keep_below {l : List AOper} {b i n : Nat} {o : AOper} {G G' : Gh} {s : ASt} (hk : G.Keep n (o.op.ownId b) G') (hc : b ≤ n) : G.Keep b none G' := by
 intro j hj _ hf
 refine hk j (by omega) ?_ hf
 rw [ownId_num]
 intro he
 simp only [Option.map_eq_some_iff] at he
 obtain ⟨k, _, e1⟩ := he
 omega
theorem Gh.Keep.trans {G G' G'' : Gh} {n : Nat} (h : G.Keep n none G') (k : G'.Keep n none G'') : G.Keep n none G'' :=
 fun i hi ho hf => k i hi ho (h i hi ho hf)
/-- The operations from one on, one by one. -/
theorem seq_sound {call : Caller} (hcall : CallOK P B w0 call) {ops : Array Oper} {l : List AOper} (hR : RegOK P nt ops l) {b : Nat} {E : Nat → AEnv} {S : Nat → ASt} {V : Nat → AV} {logs : List Log}
  (ht : Trace call b l 0 E S V logs) (hb : b ≤ (S 0).ctr) {Q : Exit → Act → World → Prop} {G0 : Gh} (hK : Next P nt B w0 G0 b none (E l.length) (S l.length) (Q .normal)) :
  ∀ (m i : Nat) (G : Gh) (a : Act) (w : World), i + m = ops.size → Rel nt B w0 G (E i) (S i) a w → Owns b l G (S i) (· < i) → G0.Le G → G0.Keep b none G → wpOps P ops Q (List.range' i m) a w := by
 intro m
 induction m with
 | zero =>
  intro i G a w hi h _ hle hkp
  rw [show i = l.length from by rw [hR.len]; omega] at h
  simp only [List.range'_zero, wpOps]
  exact hK a w G hle hkp h
 | succ m ih =>
  intro i G a w hi h ho hle hkp
  rw [List.range'_succ, wpOps_cons]
  obtain ⟨o, ao, k, h1, h2, h3⟩ := hR.get (j := i) (by omega)
  obtain ⟨t1, t2, _⟩ := ht i ao h2
  have hlt : i < l.length := by rw [hR.len]; omega
  have hbi : b ≤ (S i).ctr := Nat.le_trans hb (ht.le hcall (Nat.zero_le i) (by omega))
  refine step_sound hcall h1 h3 h (fun n hn => ho i ao n h2 (Nat.lt_irrefl i) hn) (e1 := E (i + 1)) (s1 := S (i + 1)) ?_ ?_
  ·rw [stepOp_eq, t1, t2]; rfl
  ·intro a' w' G' hle' hkp' hrel
   refine ih (i + 1) G' a' w' (by omega) hrel (Owns.step hR.nums ho h2 hkp' (stepV_ctr hcall t1) fun j hj => ⟨by omega, by omega⟩) (hle.trans hle') (hkp.trans (keep_below (l := l) (i := i) (s := S i) hkp' hbi))
theorem Sim.ctr_le_enter (na : Nat) (pre : List (Nat × List AV)) : s.ctr ≤ (s.enter na pre).ctr := by
 obtain ⟨h2, _, _⟩ := preSet_spec s.ctr pre { s with ctr := s.ctr + na }
 simp only [ASt.enter, h2]
 omega
theorem region_seq {call : Caller} (hcall : CallOK P B w0 call) {id : Nat} {ops : Array Oper} {l : List AOper} (hR : RegOK P nt ops l) (h : Rel nt B w0 G e s a w) {e' : AEnv} {s' : ASt} {logs : List Log} {pre : List (Nat × List AV)}
  (hr : runOps call s.ctr l 0 e (s.enter (ownSum l) pre) = some (e', s', logs)) {Q : Exit → Act → World → Prop} (hK : Next P nt B w0 G s.ctr none e' s' (Q .normal)) : (Code.region id ops false).wp P Q a w := by
 obtain ⟨E, S, V, h1, h2, h3, h4, ht⟩ := runOps_trace hr
 refine wp_region ?_
 rw [List.range_eq_range']
 refine seq_sound hcall hR ht (b := s.ctr) (by rw [h2]; exact Sim.ctr_le_enter _ _) (G0 := G) (by rw [h3, h4]; exact hK) ops.size 0 G a w (by omega) ?_ ?_ (.refl G) (.refl G _ _)
 ·rw [h1, h2]; exact h.enter _ _
 ·rw [h2]; exact Owns.enter hR.nums h.sim pre _
end
end Go.Proofs.YtdohdncgjendkaaDoor.Abs
