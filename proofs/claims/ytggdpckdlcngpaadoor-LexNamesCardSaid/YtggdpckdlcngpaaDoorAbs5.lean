/- Maps, bounds and sums, in the model. -/
import Derived.Test.YtggdpckdlcngpaaDoorAbs4
set_option linter.unusedVariables false
set_option linter.unusedSimpArgs false
namespace Go.Proofs.YtggdpckdlcngpaaDoor.Abs
open Go.RowKit

/-- The place of the first entry of this key. -/
def idxE (t : KeyT) (k : AV) : List (AV × AV × Nat) → Option (Option Nat)
  | [] => some none
  | (k', _, _) :: es => match eqKey t k k' with
    | some true => some (some 0)
    | some false => (idxE t k es).map fun r => r.map (· + 1)
    | none => none

theorem findE_idx {t : KeyT} {k : AV} : ∀ {es : List (AV × AV × Nat)} {r : Option AV}, findE t k es = some r →
    (r = none ∧ idxE t k es = some none) ∨ ∃ i k' v b, r = some v ∧ idxE t k es = some (some i) ∧ es[i]? = some (k', v, b)
  | [], r, h => by simp only [findE] at h; injection h with h; exact .inl ⟨h.symm, rfl⟩
  | (k', v, b) :: es, r, h => by
    simp only [findE] at h
    split at h
    · rename_i he
      injection h with h; subst h
      exact .inr ⟨0, k', v, b, rfl, by simp [idxE, he], rfl⟩
    · rename_i he
      rcases findE_idx h with ⟨h1, h2⟩ | ⟨i, k'', v', b', h1, h2, h3⟩
      · exact .inl ⟨h1, by simp [idxE, he, h2]⟩
      · exact .inr ⟨i + 1, k'', v', b', h1, by simp [idxE, he, h2], by simpa using h3⟩
    · cases h

theorem putE_idx {t : KeyT} {k v : AV} {c : Nat} : ∀ {es : List (AV × AV × Nat)} {r : List (AV × AV × Nat) × Nat}, putE t k v c es = some r →
    (idxE t k es = some none ∧ r = (es ++ [(k, v, c)], c + 1)) ∨ ∃ i k' v' b, idxE t k es = some (some i) ∧ es[i]? = some (k', v', b) ∧ eqKey t k k' = some true ∧ r = (es.set i (k, v, b), c)
  | [], r, h => by simp only [putE] at h; injection h with h; exact .inl ⟨rfl, by simp [← h]⟩
  | (k', v', b) :: es, r, h => by
    simp only [putE] at h
    split at h
    · rename_i he
      injection h with h; subst h
      exact .inr ⟨0, k', v', b, by simp [idxE, he], rfl, he, by simp⟩
    · rename_i he
      cases hp : putE t k v c es with
      | none => rw [hp] at h; cases h
      | some q =>
        rw [hp] at h; injection h with h; subst h
        rcases putE_idx hp with ⟨h1, h2⟩ | ⟨i, k'', v'', b', h1, h2, h3, h4⟩
        · exact .inl ⟨by simp [idxE, he, h1], by simp [h2]⟩
        · exact .inr ⟨i + 1, k'', v'', b', by simp [idxE, he, h1], by simpa using h2, h3, by simp [h4]⟩
    · cases h

theorem touchE_idx {t : KeyT} {k z : AV} {c : Nat} : ∀ {es : List (AV × AV × Nat)} {r : AV × Nat × List (AV × AV × Nat) × Nat}, touchE t k z c es = some r →
    (idxE t k es = some none ∧ r = (z, c, es ++ [(k, z, c)], c + 1)) ∨ ∃ i k' v' b, idxE t k es = some (some i) ∧ es[i]? = some (k', v', b) ∧ eqKey t k k' = some true ∧ r = (v', b, es.set i (k, v', b), c)
  | [], r, h => by simp only [touchE] at h; injection h with h; exact .inl ⟨rfl, by simp [← h]⟩
  | (k', v', b) :: es, r, h => by
    simp only [touchE] at h
    split at h
    · rename_i he
      injection h with h; subst h
      exact .inr ⟨0, k', v', b, by simp [idxE, he], rfl, he, by simp⟩
    · rename_i he
      cases hp : touchE t k z c es with
      | none => rw [hp] at h; cases h
      | some q =>
        rw [hp] at h; injection h with h; subst h
        rcases touchE_idx hp with ⟨h1, h2⟩ | ⟨i, k'', v'', b', h1, h2, h3, h4⟩
        · exact .inl ⟨by simp [idxE, he, h1], by simp [h2]⟩
        · exact .inr ⟨i + 1, k'', v'', b', by simp [idxE, he, h1], by simpa using h2, h3, by simp [h4]⟩
    · cases h

section
variable {P : Program} {w : World} {G : Gh}

theorem EntR.head {es : List (AV × AV × Nat)} {k v : AV} {b : Nat} {ces : List MapEntry} (h : EntR G ((k, v, b) :: es) ces) : ∃ y c, ces = y :: c ∧ VR G k y.key ∧ VR G v y.val ∧ y.born = b ∧ EntR G es c := by
  cases ces with
  | nil => have := h.1; simp at this
  | cons y c =>
    obtain ⟨h1, h2, h3⟩ := h.2 0 k v b y rfl rfl
    exact ⟨y, c, rfl, h1, h2, h3, by have := h.1; simpa using this, fun j k' v' n y' a1 a2 => h.2 (j + 1) k' v' n y' (by simpa using a1) (by simpa using a2)⟩

theorem findAsking_sound {kt : TypeId} {t : KeyT} (hk : keyT P kt = some t) {k : AV} {ck : Value} (hv : VR G k ck) : ∀ (es : List (AV × AV × Nat)) (ces : List MapEntry) (n : Nat) (oi : Option Nat),
    EntR G es ces → idxE t k es = some oi → (Instr.findAsking kt ck ces n).run P w = .ok (oi.map fun i => (n + i, ((ces[i]?).map (·.val)).getD undef)) w
  | [], ces, n, oi, he, h => by
    have : ces = [] := by have := he.1; simpa using this
    subst this
    simp only [idxE] at h; injection h with h; subst h
    simp [Instr.findAsking]
  | (k', v, b) :: es, ces, n, oi, he, h => by
    obtain ⟨y, c, rfl, h1, h2, h3, h4⟩ := he.head
    simp only [idxE] at h
    simp only [Instr.findAsking, Sem.run_bind]
    split at h
    · rename_i hq
      injection h with h; subst h
      rw [key_sound hk hq hv h1]
      simp
    · rename_i hq
      rw [key_sound hk hq hv h1]
      cases hi : idxE t k es with
      | none => rw [hi] at h; cases h
      | some oi' =>
        rw [hi] at h; injection h with h; subst h
        simp only [Result.andThen_ok, Bool.false_eq_true, if_false]
        rw [findAsking_sound hk hv es c (n + 1) oi' h4 hi]
        cases oi' with
        | none => rfl
        | some i => simp; omega
    · cases h

theorem findNow_sound {kt : TypeId} {u : KT} {td : TypeDesc} (hd : P.underlying kt = some td) (hu : cellT P kt = some u) {k : AV} {ck : Value} (hv : VR G k ck) : ∀ (es : List (AV × AV × Nat)) (ces : List MapEntry) (n : Nat) (oi : Option Nat),
    EntR G es ces → idxE (.one u) k es = some oi → Instr.findNow td ck ces n = some (oi.map fun i => (n + i, ((ces[i]?).map (·.val)).getD undef))
  | [], ces, n, oi, he, h => by
    have : ces = [] := by have := he.1; simpa using this
    subst this
    simp only [idxE] at h; injection h with h; subst h
    simp [Instr.findNow]
  | (k', v, b) :: es, ces, n, oi, he, h => by
    obtain ⟨y, c, rfl, h1, h2, h3, h4⟩ := he.head
    have hs : ∀ q, eqKey (.one u) k k' = some q → Instr.sameNow td ck y.key = some q := by
      intro q hq
      simp only [eqKey] at hq
      unfold cellT at hu
      rw [hd] at hu
      cases td with
      | bool =>
        injection hu with hu; subst hu
        cases k <;> cases k' <;> simp [eqT] at hq
        rw [hv.bool_inv, h1.bool_inv]; simp only [Instr.sameNow]; rw [← hq]; rename_i a b'; cases a <;> cases b' <;> rfl
      | int kk =>
        injection hu with hu; subst hu
        cases k <;> cases k' <;> simp [eqT] at hq
        obtain ⟨e, hq⟩ := hq; subst e
        rw [hv.int_inv, h1.int_inv]; simp only [Instr.sameNow, if_true]; rw [← hq]; rfl
      | string =>
        injection hu with hu; subst hu
        cases k <;> cases k' <;> simp [eqT] at hq
        rw [hv.str_inv, h1.str_inv]; simp only [Instr.sameNow]; rw [← hq]; congr 1
        rw [beq_toListBytes, ByteArray.toList_eq, ByteArray.toList_eq, Bool.eq_iff_iff]; simp
      | _ => cases hu
    simp only [idxE] at h
    simp only [Instr.findNow]
    split at h
    · rename_i hq
      injection h with h; subst h
      rw [hs true hq]
      simp
    · rename_i hq
      rw [hs false hq]
      cases hi : idxE (.one u) k es with
      | none => rw [hi] at h; cases h
      | some oi' =>
        rw [hi] at h; injection h with h; subst h
        simp only
        rw [findNow_sound hd hu hv es c (n + 1) oi' h4 hi]
        cases oi' with
        | none => rfl
        | some i => simp; omega
    · cases h

theorem r_findKey {kt : TypeId} {t : KeyT} (hk : mapKeyT P kt = some t) {k : AV} {ck : Value} (hv : VR G k ck) {es : List (AV × AV × Nat)} {ces : List MapEntry} {oi : Option Nat}
    (he : EntR G es ces) (h : idxE t k es = some oi) : (Instr.findKey kt ck ces).run P w = .ok (oi.map fun i => (i, ((ces[i]?).map (·.val)).getD undef)) w := by
  have hk0 : keyT P kt = some t := by
    unfold mapKeyT at hk
    split at hk
    · cases hk
    · exact hk
  have hask := fun (n : Nat) => findAsking_sound (w := w) hk0 hv es ces n oi he h
  cases hd : P.underlying kt with
  | none => simp [keyT, hd] at hk0
  | some td =>
    have hone : ∀ u, cellT P kt = some u → t = .one u → (Instr.findKey kt ck ces).run P w = .ok (oi.map fun i => (i, ((ces[i]?).map (·.val)).getD undef)) w := by
      intro u hu e
      subst e
      have := findNow_sound hd hu hv es ces 0 oi he h
      simp only [Instr.findKey, Sem.run_bind, r_und hd, Result.andThen_ok, this, Nat.zero_add, Sem.run_pure]
    cases td with
    | bool => simp only [keyT, hd] at hk0; injection hk0 with hk0; exact hone .bool (by simp [cellT, hd]) hk0.symm
    | int k' => simp only [keyT, hd] at hk0; injection hk0 with hk0; exact hone .int (by simp [cellT, hd]) hk0.symm
    | string => simp only [keyT, hd] at hk0; injection hk0 with hk0; exact hone .str (by simp [cellT, hd]) hk0.symm
    | struct fs => simp only [mapKeyT, hd] at hk; cases hk
    | array n e =>
      have hq : ∀ y : Value, Instr.sameNow (.array n e) ck y = none := fun y => by cases ck <;> cases y <;> rfl
      cases ces with
      | nil =>
        have : es = [] := by have := he.1; simpa using this.symm
        subst this
        simp only [idxE] at h; injection h with h; subst h
        simp [Instr.findKey, r_und hd, Instr.findNow]
      | cons y c =>
        have hn : Instr.findNow (.array n e) ck (y :: c) 0 = none := by simp [Instr.findNow, hq]
        have := hask 0
        simp only [Instr.findKey, Sem.run_bind, r_und hd, Result.andThen_ok, hn, this, Nat.zero_add]
    | _ => simp [keyT, hd] at hk0

theorem sameBits_eq {t : KeyT} {k k' : AV} (h : eqKey t k k' = some true) {x y : Value} (hx : VR G k x) (hy : VR G k' y) (d : Nat) : Instr.sameBits (d + 1) y x = true := by
  have hcell : ∀ {u : KT} {a b : AV} {x y : Value} (d : Nat), eqT u a b = some true → VR G a x → VR G b y → Instr.sameBits d y x = true := by
    intro u a b x y d h hx hy
    cases u <;> cases a <;> cases b <;> simp [eqT] at h
    · obtain ⟨e1, e2⟩ := h; subst e1; subst e2
      rw [hx.int_inv, hy.int_inv]; cases d <;> simp [Instr.sameBits]
    · subst h; rw [hx.str_inv, hy.str_inv]; cases d <;> simp [Instr.sameBits, beq_toListBytes]
    · subst h; rw [hx.bool_inv, hy.bool_inv]; cases d <;> simp [Instr.sameBits]
  cases t with
  | one u => exact hcell (d + 1) h hx hy
  | many ts =>
    cases k <;> cases k' <;> simp [eqKey] at h
    rename_i l m
    obtain ⟨xs, rfl, hxs, _⟩ := hx.agg_inv
    obtain ⟨ys, rfl, hys, _⟩ := hy.agg_inv
    have hl := eqTs_len h
    simp only [Instr.sameBits, Bool.and_eq_true, beq_iff_eq]
    refine ⟨by have h1 := hxs.1; have h2 := hys.1; simp only [Array.length_toList] at h1 h2; omega, ?_⟩
    have key : ∀ (ts : List KT) (l m : List AV) (c e : List Value), eqTs ts l m = some true → VRs G l c → VRs G m e → ((e.zip c).all fun (p : Value × Value) => Instr.sameBits d p.1 p.2) = true := by
      intro ts
      induction ts with
      | nil => intro l m c e h hc he; cases l <;> cases m <;> simp [eqTs] at h; rw [hc.nil_inv, he.nil_inv]; rfl
      | cons t ts ih =>
        intro l m c e h hc he
        cases l with
        | nil => simp [eqTs] at h
        | cons a l =>
          cases m with
          | nil => simp [eqTs] at h
          | cons b m =>
            obtain ⟨x, c', rfl, v1, hc'⟩ := hc.cons_inv
            obtain ⟨y, e', rfl, v2, he'⟩ := he.cons_inv
            simp only [eqTs] at h
            split at h
            · rename_i hq
              simp only [List.zip_cons_cons, List.all_cons, Bool.and_eq_true]
              exact ⟨hcell d hq v1 v2, ih l m c' e' h hc' he'⟩
            · split at h <;> simp at h
            · cases h
    exact key ts l m xs.toList ys.toList h hxs hys

/-! ### Numbers, bounds -/

theorem natOf_sound {v : AV} {n : Nat} (h : natOf v = some n) {c : Value} (hv : VR G v c) : ∃ k i, c = .int k i ∧ 0 ≤ i ∧ i.toNat = n := by
  cases v <;> simp [natOf] at h
  rename_i k i
  obtain ⟨h0, h1⟩ := h
  exact ⟨k, i, hv.int_inv, h0, h1⟩

theorem r_sliceBound {v : AV} {n y : Nat} (h : natOf v = some n) (hn : n ≤ y) {c : Value} (hv : VR G v c) (code : BoundsCode) : (Instr.sliceBound c y code).run P w = .ok n w := by
  obtain ⟨k, i, rfl, h0, h1⟩ := natOf_sound h hv
  simp only [Instr.sliceBound, asIntOf, Sem.run_bind, Sem.run_pure, Result.andThen_ok, Sem.run_ite]
  rw [if_pos ⟨h0, by omega⟩, h1]

theorem compOpt_sound {e : AEnv} {a : Act} (hop : OpdR G e a) {x : Option Operand} {y : Option AOpd} (h : compOpt x = some y) :
    (x = none ∧ y = none) ∨ ∃ x' y', x = some x' ∧ y = some y' ∧ VR G (ev e y') (a.eval x') := by
  cases x with
  | none => simp only [compOpt] at h; injection h with h; exact .inl ⟨rfl, h.symm⟩
  | some x =>
    simp only [compOpt] at h
    cases hc : compOpd x with
    | none => rw [hc] at h; cases h
    | some y' => rw [hc] at h; injection h with h; exact .inr ⟨x, y', rfl, h.symm, hop.opd hc⟩

theorem r_bounds {e : AEnv} {a : Act} (hop : OpdR G e a) {lo hi : Option Operand} {lo' hi' : Option AOpd} (h1 : compOpt lo = some lo') (h2 : compOpt hi = some hi') {len cap cap' l h : Nat}
    (hb : boundsV (ev e) len cap lo' hi' = some (l, h)) (hlen : len ≤ cap') (hcap : cap ≤ cap') (isSl : Bool) :
    (Instr.sliceBounds isSl len cap' (lo.map a.eval) (hi.map a.eval) none).run P w = .ok (l, h, cap') w ∧ l ≤ h ∧ h ≤ cap := by
  unfold boundsV at hb
  have hh : ∃ h0, (match hi' with | some x => natOf (ev e x) | none => some len) = some h0 ∧ h0 ≤ cap ∧ ∃ l0, (match lo' with | some x => natOf (ev e x) | none => some 0) = some l0 ∧ l0 ≤ h0 ∧ l0 = l ∧ h0 = h := by
    split at hb
    · rename_i h0 hh0
      split at hb
      · rename_i hc
        split at hb
        · rename_i l0 hl0
          split at hb
          · rename_i hle
            injection hb with hb; injection hb with e1 e2
            exact ⟨h0, hh0, hc, l0, hl0, hle, e1, e2⟩
          · cases hb
        · cases hb
      · cases hb
    · cases hb
  obtain ⟨h0, hh0, hc, l0, hl0, hle, rfl, rfl⟩ := hh
  refine ⟨?_, hle, hc⟩
  rcases compOpt_sound hop h2 with ⟨rfl, rfl⟩ | ⟨x, y, rfl, rfl, hv⟩
  · have hh0' : len = h0 := by simpa using hh0
    subst hh0'
    rcases compOpt_sound hop h1 with ⟨rfl, rfl⟩ | ⟨x, y, rfl, rfl, hv⟩
    · have hl0' : 0 = l0 := by simpa using hl0
      subst hl0'
      simp [Instr.sliceBounds]
    · have hl0' : natOf (ev e y) = some l0 := by simpa using hl0
      simp [Instr.sliceBounds, r_sliceBound hl0' hle hv]
  · have hh0' : natOf (ev e y) = some h0 := by simpa using hh0
    rcases compOpt_sound hop h1 with ⟨rfl, rfl⟩ | ⟨x', y', rfl, rfl, hv'⟩
    · have hl0' : 0 = l0 := by simpa using hl0
      subst hl0'
      simp [Instr.sliceBounds, r_sliceBound hh0' (Nat.le_trans hc hcap) hv]
    · have hl0' : natOf (ev e y') = some l0 := by simpa using hl0
      simp [Instr.sliceBounds, r_sliceBound hh0' (Nat.le_trans hc hcap) hv, r_sliceBound hl0' hle hv']

/-! ### Sums and the like -/

def noAgg : Value → Prop
  | .nilIface => False
  | .agg _ => False
  | _ => True

def noNum : Value → Prop
  | .int _ _ => False
  | .float _ _ => False
  | .complex _ _ _ => False
  | .string _ => False
  | _ => True

theorem r_eqGuard_scalar {op : BinOp} {t : TypeId} {x y : Operand} {a b : Value} (h : noAgg a) : (eqGuard op t x y a b).run P w = .ok () w := by
  unfold eqGuard
  cases op <;> first
    | rfl
    | (cases a <;> first | (exact h.elim) | rfl | (cases b <;> rfl))

theorem intV_sound {op : BinOp} {k : IntKind} {a b : Int} {v : AV} (h : intV op k a b = some v) (hs : op ≠ .shl) (hs' : op ≠ .shr) (t : TypeId) : ∃ c, (binOp op t (.int k a) (.int k b)).run P w = .ok c w ∧ VR G v c := by
  cases op <;> simp [intV] at h <;> first | (exact absurd rfl hs) | (exact absurd rfl hs') | skip
  case add => subst h; exact ⟨_, by simp [binOp, Op.intArith], .int _ _⟩
  case sub => subst h; exact ⟨_, by simp [binOp, Op.intArith], .int _ _⟩
  case mul => subst h; exact ⟨_, by simp [binOp, Op.intArith], .int _ _⟩
  case quo => obtain ⟨h0, rfl⟩ := h; exact ⟨_, by simp [binOp, Op.intDiv, h0], .int _ _⟩
  case rem => obtain ⟨h0, rfl⟩ := h; exact ⟨_, by simp [binOp, Op.intDiv, h0], .int _ _⟩
  case and => subst h; exact ⟨_, by simp [binOp, Op.intBits] <;> rfl, .int _ _⟩
  case or => subst h; exact ⟨_, by simp [binOp, Op.intBits] <;> rfl, .int _ _⟩
  case xor => subst h; exact ⟨_, by simp [binOp, Op.intBits] <;> rfl, .int _ _⟩
  case andNot => subst h; exact ⟨_, by simp [binOp, Op.intBits] <;> rfl, .int _ _⟩
  case eql => subst h; exact ⟨.bool (decide (a = b)), by simp [binOp, Op.intCmp] <;> rfl, .bool _⟩
  case neq => subst h; exact ⟨.bool (!decide (a = b)), by simp [binOp, Op.intCmp] <;> rfl, .bool _⟩
  case lss => subst h; exact ⟨_, by simp [binOp, Op.intCmp] <;> rfl, .bool _⟩
  case leq => subst h; exact ⟨_, by simp [binOp, Op.intCmp] <;> rfl, .bool _⟩
  case gtr => subst h; exact ⟨_, by simp [binOp, Op.intCmp] <;> rfl, .bool _⟩
  case geq => subst h; exact ⟨_, by simp [binOp, Op.intCmp] <;> rfl, .bool _⟩

theorem binV_sound {op : BinOp} {x y v : AV} (h : binV op x y = some v) {a b : Value} (hx : VR G x a) (hy : VR G y b) (t : TypeId) :
    ((∃ k n, a = .int k n) ∨ ∃ s, a = .string s) ∧ ∃ c, (binOp op t a b).run P w = .ok c w ∧ VR G v c := by
  cases x <;> simp [binV] at h
  · cases y <;> simp at h
    rename_i k n k' m
    rw [hx.int_inv, hy.int_inv]
    refine ⟨.inl ⟨k, n, rfl⟩, ?_⟩
    by_cases hs : op = .shl
    · subst hs
      simp only [shV] at h
      split at h
      · cases h
      · rename_i hb
        injection h with h; subst h
        exact ⟨_, by simp [binOp, Op.shift, hb] <;> rfl, .int _ _⟩
    · by_cases hs' : op = .shr
      · subst hs'
        simp only [shV] at h
        split at h
        · cases h
        · rename_i hb
          injection h with h; subst h
          exact ⟨_, by simp [binOp, Op.shift, hb] <;> rfl, .int _ _⟩
      · have h' : (if k = k' then intV op k n m else none) = some v := by
          cases op <;> first | exact h | (exact absurd rfl hs) | (exact absurd rfl hs')
        split at h'
        · rename_i e; subst e
          exact intV_sound h' hs hs' t
        · cases h'
  · cases y <;> simp at h
    rename_i s s'
    rw [hx.str_inv, hy.str_inv]
    refine ⟨.inr ⟨_, rfl⟩, ?_⟩
    have hsz : ∀ l : List UInt8, (⟨l.toArray⟩ : ByteArray).size = l.length := fun l => by simp [ByteArray.size]
    cases op <;> simp [strV] at h
    case add =>
      obtain ⟨h0, rfl⟩ := h
      refine ⟨.string ⟨(s ++ s').toArray⟩, ?_, .str _⟩
      simp only [binOp, Op.stringOp, hsz, Sem.run_ite]
      rw [if_neg (by simp [IntKind.max, IntKind.bits, IntKind.signed]; omega)]
      simp only [Sem.run_pure]
      congr 2
    case eql =>
      subst h
      refine ⟨_, ?_, .bool _⟩
      simp only [binOp, Op.stringOp, Sem.run_pure, ByteArray.toList_eq]
      congr 2
      rw [Bool.eq_iff_iff]; simp
    case neq =>
      subst h
      refine ⟨_, ?_, .bool _⟩
      simp only [binOp, Op.stringOp, Sem.run_pure, ByteArray.toList_eq]
      congr 2
      rw [Bool.eq_iff_iff]; simp
    case lss =>
      subst h
      refine ⟨_, ?_, .bool _⟩
      simp only [binOp, Op.stringOp, Sem.run_pure, ByteArray.toList_eq]

theorem nilV_func {t : TypeId} {a1 a2 : Array TypeId} {vr : Bool} (hd : P.underlying t = some (.func a1 a2 vr)) {x y : AV} {r : Bool} (h : nilV true x y = some r) {a b : Value} (hx : VR G x a) (hy : VR G y b) :
    (Op.equal t a b).run P w = .ok r w ∧ noAgg a ∧ noNum a := by
  show (Op.equalIn (9999 + 1) t a b).run P w = _ ∧ _ ∧ _
  generalize 9999 = d
  cases x <;> cases y <;> simp [nilV] at h <;> subst h <;> cases hx <;> cases hy <;> (refine ⟨?_, trivial, trivial⟩; unfold Op.equalIn; simp [r_und hd])

theorem nilV_ptr {t e : TypeId} (hd : P.underlying t = some (.pointer e)) {x y : AV} {r : Bool} (h : nilV false x y = some r) {a b : Value} (hx : VR G x a) (hy : VR G y b) :
    (Op.equal t a b).run P w = .ok r w ∧ noAgg a ∧ noNum a := by
  show (Op.equalIn (9999 + 1) t a b).run P w = _ ∧ _ ∧ _
  generalize 9999 = d
  cases x <;> cases y <;> simp [nilV] at h <;> subst h <;> cases hx <;> cases hy <;> (refine ⟨?_, trivial, trivial⟩; unfold Op.equalIn; simp [r_und hd])

end
end Go.Proofs.YtggdpckdlcngpaaDoor.Abs
