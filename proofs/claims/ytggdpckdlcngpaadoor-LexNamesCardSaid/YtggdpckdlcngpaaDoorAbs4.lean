/- Comparisons, keys and bounds, in the model. -/
import Derived.Test.YtggdpckdlcngpaaDoorAbs3
import Derived.Laws.StructEq
set_option linter.unusedVariables false
set_option linter.unusedSimpArgs false
namespace Go.Proofs.YtggdpckdlcngpaaDoor.Abs
open Go.RowKit

section
variable {P : Program} {w : World} {G : Gh}

theorem VR.int_inv {k : IntKind} {n : Int} {c : Value} (h : VR G (.int k n) c) : c = .int k n := by cases h; rfl
theorem VR.str_inv {s : List UInt8} {c : Value} (h : VR G (.str s) c) : c = .string ⟨s.toArray⟩ := by cases h; rfl
theorem VR.bool_inv {b : Bool} {c : Value} (h : VR G (.bool b) c) : c = .bool b := by cases h; rfl

theorem eqT_sound {u : KT} {t : TypeId} (hu : cellT P t = some u) {a b : AV} {r : Bool} (h : eqT u a b = some r) {x y : Value} (hx : VR G a x) (hy : VR G b y) (d : Nat) :
    (Op.equalIn (d + 1) t x y).run P w = .ok r w := by
  unfold cellT at hu
  cases hd : P.underlying t with
  | none => rw [hd] at hu; cases hu
  | some td =>
    rw [hd] at hu
    cases td with
    | bool =>
      injection hu with hu; subst hu
      cases a <;> cases b <;> simp [eqT] at h
      rename_i p q; rw [hx.bool_inv, hy.bool_inv, run_equalIn_bool' w d t p q hd, ← h]; cases p <;> cases q <;> rfl
    | int k =>
      injection hu with hu; subst hu
      cases a <;> cases b <;> simp [eqT] at h
      rename_i k1 p k2 q
      obtain ⟨e, h⟩ := h
      subst e
      rw [hx.int_inv, hy.int_inv, run_equalIn_int w d t k1 k p q hd, ← h]; rfl
    | string =>
      injection hu with hu; subst hu
      cases a <;> cases b <;> simp [eqT] at h
      rename_i p q
      rw [hx.str_inv, hy.str_inv, run_equalIn_string w d t _ _ hd, ← h]
      congr 1
      rw [ByteArray.toList_eq, ByteArray.toList_eq]
      rw [Bool.eq_iff_iff]; simp
    | _ => cases hu

theorem eqTs_len : ∀ {ts : List KT} {l m : List AV} {r : Bool}, eqTs ts l m = some r → l.length = ts.length ∧ m.length = ts.length
  | [], [], [], _, _ => ⟨rfl, rfl⟩
  | t :: ts, a :: l, b :: m, r, h => by
    simp only [eqTs] at h
    split at h
    · obtain ⟨h1, h2⟩ := eqTs_len h
      exact ⟨by simp [h1], by simp [h2]⟩
    · split at h
      · rename_i hc; exact ⟨by simp [hc.1], by simp [hc.2]⟩
      · cases h
    · cases h
  | [], [], _ :: _, _, h => by simp [eqTs] at h
  | [], _ :: _, _, _, h => by simp [eqTs] at h
  | _ :: _, [], _, _, h => by simp [eqTs] at h
  | _ :: _, _ :: _, [], _, h => by simp [eqTs] at h

theorem cellT_agg {t : TypeId} {u : KT} (hu : cellT P t = some u) : aggT P t = some false := by
  unfold cellT at hu
  unfold aggT
  cases hd : P.underlying t with
  | none => rw [hd] at hu; cases hu
  | some td => rw [hd] at hu; cases td <;> first | rfl | cases hu

theorem r_part {t : TypeId} {u : KT} (hu : cellT P t = some u) {cs : Array Value} {off : Nat} {c : Value} (hc : cs[off]? = some c) : (part t cs off).run P w = .ok c w := by
  simp [part, r_agg (cellT_agg hu), hc]

theorem eqFields_sound (d : Nat) (xs ys : Array Value) : ∀ (fs : List Field) (i : Nat) (ts : List KT) (l m : List AV) (r : Bool), plainFields P fs i = some ts →
    eqTs ts l m = some r → VRs G l (xs.toList.drop i) → VRs G m (ys.toList.drop i) → (Op.eqFields (d + 1) xs ys fs).run P w = .ok r w
  | [], i, ts, l, m, r, hp, h, _, _ => by
    simp only [plainFields] at hp; injection hp with hp; subst hp
    cases l <;> cases m <;> simp [eqTs] at h
    subst h; simp [Op.eqFields]
  | f :: fs, i, ts, l, m, r, hp, h, hl, hm => by
    simp only [plainFields] at hp
    split at hp
    · rename_i u us hu hus
      split at hp
      · rename_i hc
        injection hp with hp; subst hp
        cases l with
        | nil => simp [eqTs] at h
        | cons a l =>
          cases m with
          | nil => simp [eqTs] at h
          | cons b m =>
            have hx := hl.get (j := 0) rfl
            have hy := hm.get (j := 0) rfl
            obtain ⟨x, hx, vx⟩ := hx
            obtain ⟨y, hy, vy⟩ := hy
            rw [List.getElem?_drop, Nat.add_zero] at hx hy
            have hl' : VRs G l (xs.toList.drop (i + 1)) := by have := hl.drop 1; simpa using this
            have hm' : VRs G m (ys.toList.drop (i + 1)) := by have := hm.drop 1; simpa using this
            simp only [Op.eqFields, Sem.run_bind, Sem.run_ite]
            rw [if_pos hc.2, hc.1]
            simp only [r_part hu (c := x) (by simpa using hx), r_part hu (c := y) (by simpa using hy), Result.andThen_ok]
            simp only [eqTs] at h
            split at h
            · rename_i he
              rw [eqT_sound hu he vx vy d]
              simp only [Result.andThen_ok, Bool.not_true, Bool.false_eq_true, if_false]
              exact eqFields_sound d xs ys fs (i + 1) us l m r hus h hl' hm'
            · rename_i he
              rw [eqT_sound hu he vx vy d]
              split at h
              · injection h with h; subst h
                simp
              · cases h
            · cases h
      · cases hp
    · cases hp

theorem eqArr_sound (d : Nat) (e : TypeId) (u : KT) (hu : cellT P e = some u) (xs ys : Array Value) : ∀ (n i : Nat) (l m : List AV) (r : Bool),
    eqTs (List.replicate n u) l m = some r → VRs G l (xs.toList.drop i) → VRs G m (ys.toList.drop i) →
    (forIn (List.range' i n) ((none, ()) : Option Bool × Unit) fun i _ => do
        let a ← part e xs (i * 1)
        let b ← part e ys (i * 1)
        let q ← Op.equalIn (d + 1) e a b
        if (!q) = true then pure (ForInStep.done (some false, ())) else pure (ForInStep.yield (none, ())) : Sem (Option Bool × Unit)).run P w = .ok (if r then (none, ()) else (some false, ())) w
  | 0, i, l, m, r, h, _, _ => by
    cases l <;> cases m <;> simp [eqTs] at h
    subst h; simp
  | n + 1, i, l, m, r, h, hl, hm => by
    rw [List.replicate_succ] at h
    cases l with
    | nil => simp [eqTs] at h
    | cons a l =>
      cases m with
      | nil => simp [eqTs] at h
      | cons b m =>
        obtain ⟨x, hx, vx⟩ := hl.get (j := 0) rfl
        obtain ⟨y, hy, vy⟩ := hm.get (j := 0) rfl
        rw [List.getElem?_drop, Nat.add_zero] at hx hy
        have hl' : VRs G l (xs.toList.drop (i + 1)) := by have := hl.drop 1; simpa using this
        have hm' : VRs G m (ys.toList.drop (i + 1)) := by have := hm.drop 1; simpa using this
        rw [List.range'_succ, List.forIn_cons]
        simp only [Sem.run_bind, Nat.mul_one, r_part hu (c := x) (by simpa using hx), r_part hu (c := y) (by simpa using hy), Result.andThen_ok]
        simp only [eqTs] at h
        split at h
        · rename_i he
          rw [eqT_sound hu he vx vy d]
          have ih := eqArr_sound d e u hu xs ys n (i + 1) l m r h hl' hm'
          simp only [Nat.mul_one] at ih
          simp only [Result.andThen_ok, Bool.not_true, Bool.false_eq_true, if_false, Sem.run_pure]
          exact ih
        · rename_i he
          rw [eqT_sound hu he vx vy d]
          split at h
          · injection h with h; subst h
            simp
          · cases h
        · cases h

theorem equalIn_arr (d : Nat) {t e : TypeId} {n : Nat} (hd : P.underlying t = some (.array n e)) (hsz : sizeT P e = some 1) {u : KT} (hu : cellT P e = some u)
    {xs ys : Array Value} {l m : List AV} {r : Bool} (h : eqTs (List.replicate n u) l m = some r) (hl : VRs G l xs.toList) (hm : VRs G m ys.toList) :
    (Op.equalIn (d + 1 + 1) t (.agg xs) (.agg ys)).run P w = .ok r w := by
  have := eqArr_sound (w := w) (P := P) (G := G) d e u hu xs ys n 0 l m r h (by simpa using hl) (by simpa using hm)
  unfold Op.equalIn
  simp only [Sem.run_bind, r_und hd, r_size hsz, Result.andThen_ok, Std.Legacy.Range.forIn_eq_forIn_range', Std.Legacy.Range.size, Nat.sub_zero, Nat.add_sub_cancel, Nat.div_one]
  have h2 := this
  simp only [Nat.mul_one] at h2 ⊢
  rw [h2]
  cases r <;> rfl

theorem key_sound {t : TypeId} {k : KeyT} (hk : keyT P t = some k) {a b : AV} {r : Bool} (h : eqKey k a b = some r) {x y : Value} (hx : VR G a x) (hy : VR G b y) :
    (Op.equal t x y).run P w = .ok r w := by
  unfold keyT at hk
  have hone : ∀ u, cellT P t = some u → k = .one u → (Op.equal t x y).run P w = .ok r w := by
    intro u hu e
    subst e
    exact eqT_sound hu h hx hy 9999
  cases hd : P.underlying t with
  | none => rw [hd] at hk; cases hk
  | some td =>
    rw [hd] at hk
    cases td with
    | bool => injection hk with hk; exact hone .bool (by simp [cellT, hd]) hk.symm
    | int k' => injection hk with hk; exact hone .int (by simp [cellT, hd]) hk.symm
    | string => injection hk with hk; exact hone .str (by simp [cellT, hd]) hk.symm
    | struct fs =>
      simp only at hk
      split at hk
      · rename_i ts hts
        split at hk
        · rename_i hp
          injection hk with hk; subst hk
          cases a <;> cases b <;> simp [eqKey] at h
          rename_i l m
          obtain ⟨xs, rfl, hxs, _⟩ := hx.agg_inv
          obtain ⟨ys, rfl, hys, _⟩ := hy.agg_inv
          have hf : P.fieldsOf t = fs := by simp [Program.fieldsOf, hd]
          show (Op.equalIn (9999 + 1) t (.agg xs) (.agg ys)).run P w = _
          rw [run_equalIn_struct w 9999 t xs ys (by rw [hf]; exact hd) hp, hf]
          exact eqFields_sound 9998 xs ys fs.toList 0 ts l m r hts h (by simpa using hxs) (by simpa using hys)
        · cases hk
      · cases hk
    | array n e =>
      simp only at hk
      split at hk
      · rename_i u hu
        split at hk
        · rename_i hsz
          injection hk with hk; subst hk
          cases a <;> cases b <;> simp [eqKey] at h
          rename_i l m
          obtain ⟨xs, rfl, hxs, _⟩ := hx.agg_inv
          obtain ⟨ys, rfl, hys, _⟩ := hy.agg_inv
          exact equalIn_arr 9998 hd hsz hu h hxs hys
        · cases hk
      · cases hk
    | _ => cases hk

theorem checkKey_arr (empty : Bool) (d : Nat) (e : TypeId) (hsz : sizeT P e = some 1) (u : KT) (hu : cellT P e = some u) (xs : Array Value) : ∀ (n i : Nat), i + n ≤ xs.size →
    (forIn (List.range' i n) PUnit.unit fun i _ => do
        let z ← sizeOf e
        let a ← part e xs (i * z)
        Instr.checkKey empty (d + 1) e a
        pure (ForInStep.yield PUnit.unit) : Sem PUnit).run P w = .ok PUnit.unit w
  | 0, i, _ => by simp
  | n + 1, i, h => by
    obtain ⟨x, hx⟩ : ∃ x, xs[i]? = some x := ⟨xs[i], Array.getElem?_eq_getElem (by omega)⟩
    have hc : (Instr.checkKey empty (d + 1) e x).run P w = .ok () w := by
      unfold cellT at hu
      cases hd : P.underlying e with
      | none => rw [hd] at hu; cases hu
      | some td =>
        rw [hd] at hu
        cases td <;> first | (cases hu; done) | (unfold Instr.checkKey; simp only [Sem.run_bind, r_und hd, Result.andThen_ok]; cases x <;> rfl)
    rw [List.range'_succ, List.forIn_cons]
    simp only [Sem.run_bind, r_size hsz, Nat.mul_one, r_part hu hx, Result.andThen_ok, hc, Sem.run_pure]
    have ih := checkKey_arr empty d e hsz u hu xs n (i + 1) (by omega)
    exact ih

theorem r_checkKey {t : TypeId} {k : KeyT} (hk : mapKeyT P t = some k) {a b : AV} {r : Bool} (h : eqKey k a b = some r) {x : Value} (hx : VR G a x) (empty : Bool) (d : Nat) :
    (Instr.checkKey empty (d + 1 + 1) t x).run P w = .ok () w := by
  unfold mapKeyT at hk
  cases hd : P.underlying t with
  | none => rw [hd] at hk; simp [keyT, hd] at hk
  | some td =>
    rw [hd] at hk
    cases td with
    | struct fs => cases hk
    | array n e =>
      simp only [keyT, hd] at hk
      split at hk
      · rename_i u hu
        split at hk
        · rename_i hsz
          injection hk with hk; subst hk
          cases a <;> simp [eqKey] at h
          rename_i l
          cases b <;> simp at h
          rename_i m
          obtain ⟨xs, rfl, hxs, _⟩ := hx.agg_inv
          have hl := (eqTs_len h).1
          rw [List.length_replicate] at hl
          have hs : xs.size = n := by have := hxs.1; simp only [Array.length_toList] at this; omega
          have := checkKey_arr (w := w) (P := P) empty d e hsz u hu xs n 0 (by omega)
          unfold Instr.checkKey
          simp only [Sem.run_bind, r_und hd, Result.andThen_ok, Std.Legacy.Range.forIn_eq_forIn_range', Std.Legacy.Range.size, Nat.sub_zero, Nat.add_sub_cancel, Nat.div_one] at this ⊢
          rw [this]
          rfl
        · cases hk
      · cases hk
    | bool => unfold Instr.checkKey; simp only [Sem.run_bind, r_und hd, Result.andThen_ok]; cases x <;> rfl
    | int k' => unfold Instr.checkKey; simp only [Sem.run_bind, r_und hd, Result.andThen_ok]; cases x <;> rfl
    | string => unfold Instr.checkKey; simp only [Sem.run_bind, r_und hd, Result.andThen_ok]; cases x <;> rfl
    | _ => simp [keyT, hd] at hk

end
end Go.Proofs.YtggdpckdlcngpaaDoor.Abs
