/- Operations that turn the state. -/
import Derived.Test.YtggdpckdlcngpaaDoorAbs7
set_option linter.unusedVariables false
set_option linter.unusedSimpArgs false
namespace Go.Proofs.YtggdpckdlcngpaaDoor.Abs
open Go.RowKit

section
variable {P : Program} {B : Nat} {w0 : World} {G : Gh} {s : ASt} {w : World}

theorem keep_own {G G' : Gh} {n : Nat} {i : Nat} (hρ : ∀ j, j ≠ i → G'.ρ j = G.ρ j) (hI : G'.I = G.I) : G.Keep n (some i) G' :=
  fun j _ hj hf => ⟨by rw [hρ j (by rintro rfl; exact hj rfl)]; exact hf.1, by rw [hI]; exact hf.2⟩

/-- A new block of one's own. -/
theorem new_sound (h : Sim B w0 G s w) {o : Oper} {a : Act} {i : Nat} (hi : i < s.ctr) (hf : G.Fresh i) (hd : DfrR G s.dfr a.defers) (ob : AObj) (bo : Obj) (hr : ObjR G ob bo) (cv : Value)
    (hrun : (execOp a.eval o).run P w = .ok (.value cv) { w with heap := w.heap.push bo }) {v : AV} (hv : ∀ G', G.Le G' → G'.ρ i = some w.heap.size → VR G' v cv) :
    OpOK P B w0 G s w o a (some i) v (s.set i ob) := by
  obtain ⟨G', hle, hsim, hρ, hρ', hI⟩ := (h.set_fresh hf ob).fresh i hi hf.1 ob bo (by simp [ASt.set]) hr
  exact ⟨cv, _, G', a.defers, fun next Q hq => by rw [hrun]; exact hq, hv G' hle hρ, hle, hsim, hd.mono hle, keep_own hρ' hI⟩

theorem store_sound (h : Sim B w0 G s w) {e : AEnv} {a : Act} (hop : OpdR G e a) (hd : DfrR G s.dfr a.defers) {o : Oper} {t : TypeId} {y z : Operand} (ho : o.op = .store t y z) {sz : Nat} {y' z' : AOpd} (hs : sizeT P t = some sz) (hy : compOpd y = some y') (hz : compOpd z = some z') {s' : ASt}
    (hv : stV sz s (ev e z') (ev e y') = some s') (b : Nat) : OpOK P B w0 G s w o a none udf s' := by
  have vy := hop.opd hy
  have vz := hop.opd hz
  generalize hq : ev e y' = q at *
  cases q <;> simp only [stV] at hv <;> try (cases hv; done)
  rename_i id off
  generalize hcy : a.eval y = c at *
  cases vy with
  | ptr hb =>
    rename_i bb
    obtain ⟨_, _, _, ob, x, hob, hx, hr⟩ := h.obj id bb hb
    rw [hob] at hv
    cases hr with
    | map h1 => cases hv
    | cells h1 h2 =>
      rename_i l cs ty
      simp only at hv
      split at hv
      · rename_i hcond
        obtain ⟨hok, hlen, hfit⟩ := hcond
        injection hv with hv; subst hv
        have hcz := vz.cells_
        have hcl := h1.1; simp only [Array.length_toList] at hcl
        have hzl : (a.eval z).cells.size = sz := by have := hcz.1; simp only [Array.length_toList] at this; omega
        have hst := run_storeCells P bb off ty (a.eval z).cells.toList 0 w cs hx (by rw [Array.length_toList]; omega) (fun u hu => by
          obtain ⟨j, hj⟩ := List.getElem?_of_mem hu
          have hjl : j < (ev e z').cells.length := by
            have : j < (a.eval z).cells.toList.length := by
              rcases Nat.lt_or_ge j (a.eval z).cells.toList.length with h' | h'
              · exact h'
              · rw [List.getElem?_eq_none h'] at hj; cases hj
            rw [hcz.1] at this; exact this
          have hr := hcz.2 j _ u (List.getElem?_eq_getElem hjl) hj
          exact hr.one (vz.cells_ok hok _ (List.getElem_mem hjl)))
        have hsim := h.turn id bb hb (.cells (overlay l off (ev e z').cells)) (.cells (putCells cs off (a.eval z).cells.toList) ty (0, 0))
          (.cells (putCells_VRs h1 hcz (by omega)) (fun u hu => by
            unfold overlay at hu
            simp only [List.mem_append] at hu
            rcases hu with (hu | hu) | hu
            · exact h2 u (List.mem_of_mem_take hu)
            · exact vz.cells_ok hok u hu
            · exact h2 u (List.mem_of_mem_drop hu)))
        refine ⟨undef, _, G, a.defers, fun next Q hq => ?_, VR.udf_, .refl G, hsim, hd, .refl G _ _⟩
        have : (execOp a.eval o).run P w = .ok .skip { w with heap := w.heap.setIfInBounds bb (.cells (putCells cs off (a.eval z).cells.toList) ty (0, 0)) } := by
          simp only [execOp, ho, Instr.storeAt, hcy, Instr.sureAddr, storeVar, Sem.run_bind, Sem.run_pure, Result.andThen_ok, r_size hs, Sem.run_ite]
          rw [if_neg (by omega)]
          rw [Nat.add_zero] at hst
          rw [hst]; rfl
        rw [this]; exact hq
      · cases hv

theorem getObj_map {bb : Nat} {ces : Array MapEntry} {cl : Nat} (hx : w.heap[bb]? = some (.map ces cl)) : (getObj bb).run P w = .ok (.map ces cl) w := by simp [getObj, Sem.run, hx]
theorem setObj_map {bb : Nat} {ces : Array MapEntry} {cl : Nat} (hx : w.heap[bb]? = some (.map ces cl)) (ob : Obj) : (setObj bb ob).run P w = .ok () { w with heap := w.heap.setIfInBounds bb ob } := by simp [setObj, Sem.run, hx]

theorem keyThatStays_same {old new : Value} (h : Instr.sameBits 10000 old new = true) : (Instr.keyThatStays old new).run P w = .ok new w := by
  simp [Instr.keyThatStays, h]

theorem EntR.set {es : List (AV × AV × Nat)} {ces : Array MapEntry} (h : EntR G es ces.toList) (i : Nat) {k v : AV} {b : Nat} (f : MapEntry → MapEntry) (hf : ∀ y, ces[i]? = some y → VR G k (f y).key ∧ VR G v (f y).val ∧ (f y).born = b) :
    EntR G (es.set i (k, v, b)) (ces.modify i f).toList := by
  refine ⟨by simp [Array.size_modify]; have := h.1; simpa using this, fun j k' v' n y hj hy => ?_⟩
  have hy' : (ces.modify i f)[j]? = some y := by rw [← Array.getElem?_toList]; exact hy
  rw [Array.getElem?_modify] at hy'
  rw [List.getElem?_set] at hj
  by_cases e : i = j
  · subst e
    rw [if_pos rfl] at hy' hj
    cases hc : ces[i]? with
    | none => rw [hc] at hy'; cases hy'
    | some y0 =>
      rw [hc] at hy'; injection hy' with hy'; subst hy'
      split at hj
      · injection hj with hj; injection hj with e1 hj; injection hj with e2 e3
        subst e1; subst e2; subst e3
        exact hf y0 hc
      · cases hj
  · rw [if_neg e] at hy' hj
    exact h.2 j k' v' n y hj (by simpa using hy')

theorem EntR.push {es : List (AV × AV × Nat)} {ces : Array MapEntry} (h : EntR G es ces.toList) {k v : AV} {b : Nat} {y : MapEntry} (h1 : VR G k y.key) (h2 : VR G v y.val) (h3 : y.born = b) :
    EntR G (es ++ [(k, v, b)]) (ces.push y).toList := by
  have hl := h.1
  refine ⟨by simp; simpa using hl, fun j k' v' n y' hj hy => ?_⟩
  simp only [Array.toList_push] at hy
  by_cases e : j < es.length
  · rw [List.getElem?_append_left e] at hj
    rw [List.getElem?_append_left (by omega)] at hy
    exact h.2 j k' v' n y' hj hy
  · rw [List.getElem?_append_right (by omega)] at hj
    rw [List.getElem?_append_right (by omega), hl] at hy
    have e0 : j - es.length = 0 := by
      rcases Nat.eq_zero_or_pos (j - es.length) with h' | h'
      · exact h'
      · rw [List.getElem?_eq_none (by simp; omega)] at hj; cases hj
    rw [e0] at hj hy
    simp at hj hy
    obtain ⟨rfl, rfl, rfl⟩ := hj
    subst hy
    exact ⟨h1, h2, h3⟩

theorem EntR.at_ {es : List (AV × AV × Nat)} {ces : Array MapEntry} (h : EntR G es ces.toList) {i : Nat} {k v : AV} {b : Nat} (hi : es[i]? = some (k, v, b)) : ∃ y, ces[i]? = some y ∧ VR G k y.key ∧ VR G v y.val ∧ y.born = b := by
  have hil : i < es.length := by
    rcases Nat.lt_or_ge i es.length with h' | h'
    · exact h'
    · rw [List.getElem?_eq_none h'] at hi; cases hi
  have hl := h.1
  simp only [Array.length_toList] at hl
  have hic : i < ces.size := by omega
  exact ⟨ces[i], Array.getElem?_eq_getElem hic, h.2 i k v b ces[i] hi (by simp [hic])⟩

theorem upd_sound (h : Sim B w0 G s w) {e : AEnv} {a : Act} (hop : OpdR G e a) (hd : DfrR G s.dfr a.defers) {o : Oper} {t : TypeId} {m i z : Operand} (ho : o.op = .mapUpdate t m i z ∨ o.op = .insert t m i z) {kt et : TypeId} (hu : P.underlying t = some (.map kt et)) {m' i' z' : AOpd} (hm : compOpd m = some m') (hi : compOpd i = some i') (hz : compOpd z = some z')
    {kk : KeyT} (hkt : mapKeyT P kt = some kk) {rk : Bool} (hrk : eqKey kk (ev e i') (ev e i') = some rk) {s' : ASt} (hv : updM kk s (ev e i') (ev e z') (ev e m') = some s') : OpOK P B w0 G s w o a none udf s' := by
  have vm := hop.opd hm
  have vi := hop.opd hi
  have vz := hop.opd hz
  generalize hq : ev e m' = q at *
  cases q <;> simp only [updM] at hv <;> try (cases hv; done)
  rename_i id
  generalize hcm : a.eval m = c at *
  cases vm with
  | map hb =>
    rename_i bb
    obtain ⟨_, _, _, ob, x, hob, hx, hr⟩ := h.obj id bb hb
    rw [hob] at hv
    cases hr with
    | cells h1 h2 => cases hv
    | map h1 =>
      rename_i es ces cl
      simp only at hv
      cases hp : putE kk (ev e i') (ev e z') cl es with
      | none => rw [hp] at hv; cases hv
      | some r =>
        rw [hp] at hv; injection hv with hv; subst hv
        have hck : (Instr.checkKey false 10000 kt (a.eval i)).run P w = .ok () w := r_checkKey hkt hrk vi false 9998
        have fin : ∀ (nes : Array MapEntry) (ncl : Nat), EntR G r.1 nes.toList → ncl = r.2 → (Instr.mapUpdate t (.map (some bb)) (a.eval i) (a.eval z)).run P w = .ok () { w with heap := w.heap.setIfInBounds bb (.map nes ncl) } → OpOK P B w0 G s w o a none udf (s.set id (.map r.1 r.2)) := by
          rintro nes ncl h2 rfl h3
          refine ⟨undef, _, G, a.defers, fun next Q hq => ?_, VR.udf_, .refl G, h.turn id bb hb (.map r.1 r.2) (.map nes r.2) (.map h2), hd, .refl G _ _⟩
          have : (execOp a.eval o).run P w = .ok .skip { w with heap := w.heap.setIfInBounds bb (.map nes r.2) } := by
            rcases ho with ho | ho <;> simp only [execOp, ho, hcm, Sem.run_bind, h3, Result.andThen_ok, Sem.run_pure]
          rw [this]; exact hq
        rcases putE_idx hp with ⟨h2, h3⟩ | ⟨j, k', v', b', h2, h3, h4, h5⟩
        · have hfk := r_findKey (w := w) hkt vi h1 h2
          simp only [Option.map_none] at hfk
          refine fin (ces.push { key := a.eval i, val := a.eval z, born := cl }) (cl + 1) (by rw [h3]; exact h1.push vi vz rfl) (by rw [h3]) ?_
          simp only [Instr.mapUpdate, Sem.run_bind, r_und hu, Result.andThen_ok, getObj_map hx, hck, hfk, setObj_map hx]
        · have hfk := r_findKey (w := w) hkt vi h1 h2
          simp only [Option.map_some] at hfk
          obtain ⟨y, hy, vk, vv, hbn⟩ := h1.at_ h3
          have hsb := sameBits_eq h4 vi vk 9999
          refine fin (ces.modify j fun e => { e with key := a.eval i, val := a.eval z }) cl (by rw [h5]; exact h1.set j _ (fun y' hy' => by rw [hy] at hy'; injection hy' with hy'; subst hy'; exact ⟨vi, vz, hbn⟩)) (by rw [h5]) ?_
          simp only [Instr.mapUpdate, Sem.run_bind, r_und hu, Result.andThen_ok, getObj_map hx, hck, hfk, hy, Option.map_some, Option.getD_some, keyThatStays_same hsb, setObj_map hx]

theorem touch_sound (h : Sim B w0 G s w) {e : AEnv} {a : Act} (hop : OpdR G e a) (hd : DfrR G s.dfr a.defers) {o : Oper} {t : TypeId} {m i : Operand} (ho : o.op = .mapEntry t m i) {kt et : TypeId} (hu : P.underlying t = some (.map kt et)) {m' i' : AOpd} (hm : compOpd m = some m') (hi : compOpd i = some i')
    {kk : KeyT} (hkt : mapKeyT P kt = some kk) {zz : AV} (hz : zeroAV P et = some zz) {rk : Bool} (hrk : eqKey kk (ev e i') (ev e i') = some rk) {v : AV} {s' : ASt} (hv : touchM kk s (ev e i') zz (ev e m') = some (v, s')) : OpOK P B w0 G s w o a none v s' := by
  have vm := hop.opd hm
  have vi := hop.opd hi
  obtain ⟨zv, hzv, hzc⟩ := zeroAV_spec hz
  have vz := ofVal_VR (G := G) hzc
  generalize hq : ev e m' = q at *
  cases q <;> simp only [touchM] at hv <;> try (cases hv; done)
  rename_i id
  generalize hcm : a.eval m = c at *
  cases vm with
  | map hb =>
    rename_i bb
    obtain ⟨_, _, _, ob, x, hob, hx, hr⟩ := h.obj id bb hb
    rw [hob] at hv
    cases hr with
    | cells h1 h2 => cases hv
    | map h1 =>
      rename_i es ces cl
      simp only at hv
      cases hp : touchE kk (ev e i') zz cl es with
      | none => rw [hp] at hv; cases hv
      | some r =>
        rw [hp] at hv; injection hv with hv; injection hv with hv1 hv2; subst hv1; subst hv2
        have hck : (Instr.checkKey false 10000 kt (a.eval i)).run P w = .ok () w := r_checkKey hkt hrk vi false 9998
        have fin : ∀ (nes : Array MapEntry) (ncl : Nat) (cv : Value) (n : Nat), EntR G r.2.2.1 nes.toList → ncl = r.2.2.2 → VR G r.1 cv → n = r.2.1 → (Instr.mapEntry t (.map (some bb)) (a.eval i)).run P w = .ok (.tuple #[cv, goInt n]) { w with heap := w.heap.setIfInBounds bb (.map nes ncl) } →
            OpOK P B w0 G s w o a none (.tuple [r.1, .int .i64 r.2.1]) (s.set id (.map r.2.2.1 r.2.2.2)) := by
          rintro nes ncl cv n h2 rfl h4 rfl h3
          refine ⟨.tuple #[cv, goInt r.2.1], _, G, a.defers, fun next Q hq => ?_, VR.tuple' (VRs.cons h4 (VRs.cons (.int _ _) (VRs.nil G))), .refl G, h.turn id bb hb (.map r.2.2.1 r.2.2.2) (.map nes r.2.2.2) (.map h2), hd, .refl G _ _⟩
          have : (execOp a.eval o).run P w = .ok (.value (.tuple #[cv, goInt r.2.1])) { w with heap := w.heap.setIfInBounds bb (.map nes r.2.2.2) } := by
            simp only [execOp, ho, hcm, Sem.run_bind, h3, Result.andThen_ok, Sem.run_pure]
          rw [this]; exact hq
        rcases touchE_idx hp with ⟨h2, h3⟩ | ⟨j, k', v', b', h2, h3, h4, h5⟩
        · have hfk := r_findKey (w := w) hkt vi h1 h2
          simp only [Option.map_none] at hfk
          refine fin (ces.push { key := a.eval i, val := zv, born := cl }) (cl + 1) zv cl (by rw [h3]; exact h1.push vi vz rfl) (by rw [h3]) (by rw [h3]; exact vz) (by rw [h3]) ?_
          simp only [Instr.mapEntry, Sem.run_bind, r_und hu, Result.andThen_ok, getObj_map hx, hck, hfk, setObj_map hx, r_zero hzv, Sem.run_pure]
        · have hfk := r_findKey (w := w) hkt vi h1 h2
          simp only [Option.map_some] at hfk
          obtain ⟨y, hy, vk, vv, hbn⟩ := h1.at_ h3
          have hsb := sameBits_eq h4 vi vk 9999
          have hyl : ces.toList[j]? = some y := by simpa using hy
          rw [hyl] at hfk
          simp only [Option.map_some, Option.getD_some] at hfk
          refine fin (ces.modify j fun e => { e with key := a.eval i }) cl y.val b' (by rw [h5]; exact h1.set j _ (fun y' hy' => by rw [hy] at hy'; injection hy' with hy'; subst hy'; exact ⟨vi, vv, hbn⟩)) (by rw [h5]) (by rw [h5]; exact vv) (by rw [h5]) ?_
          simp only [Instr.mapEntry, Sem.run_bind, r_und hu, Result.andThen_ok, getObj_map hx, hck, hfk, hy, Option.map_some, Option.getD_some, keyThatStays_same hsb, setObj_map hx, Sem.run_pure, hbn]

theorem stampE_idx {n : Int} {v : AV} : ∀ {es r : List (AV × AV × Nat)}, stampE n v es = some r → ∃ (i : Nat) (k' v' : AV) (b : Nat), es[i]? = some (k', v', b) ∧ (b : Int) = n ∧ (∀ (j : Nat) (k'' v'' : AV) (b' : Nat), j < i → es[j]? = some (k'', v'', b') → (b' : Int) ≠ n) ∧ r = es.set i (k', v, b)
  | [], r, h => by simp [stampE] at h
  | (k', v', b) :: es, r, h => by
    simp only [stampE] at h
    split at h
    · rename_i e
      injection h with h; subst h
      exact ⟨0, k', v', b, rfl, e, fun j _ _ _ hj => by omega, rfl⟩
    · rename_i e
      cases hp : stampE n v es with
      | none => rw [hp] at h; cases h
      | some q =>
        rw [hp] at h; injection h with h; subst h
        obtain ⟨i, k'', v'', b', h1, h2, h3, h4⟩ := stampE_idx hp
        refine ⟨i + 1, k'', v'', b', h1, h2, fun j k3 v3 b3 hj hg => ?_, by simp [h4]⟩
        cases j with
        | zero => simp at hg; obtain ⟨_, _, rfl⟩ := hg; exact e
        | succ j => exact h3 j k3 v3 b3 (by omega) (by simpa using hg)

theorem stamp_sound (h : Sim B w0 G s w) {e : AEnv} {a : Act} (hop : OpdR G e a) (hd : DfrR G s.dfr a.defers) {o : Oper} {t : TypeId} {m i z : Operand} (ho : o.op = .entryStore t m i z) {m' i' z' : AOpd} (hm : compOpd m = some m') (hi : compOpd i = some i') (hz : compOpd z = some z')
    {s' : ASt} (hv : stampM s (ev e i') (ev e z') (ev e m') = some s') : OpOK P B w0 G s w o a none udf s' := by
  have vm := hop.opd hm
  have vi := hop.opd hi
  have vz := hop.opd hz
  generalize hq : ev e m' = q at *
  cases q <;> simp only [stampM] at hv <;> try (cases hv; done)
  rename_i id
  generalize hcm : a.eval m = c at *
  cases vm with
  | map hb =>
    rename_i bb
    obtain ⟨_, _, _, ob, x, hob, hx, hr⟩ := h.obj id bb hb
    rw [hob] at hv
    cases hr with
    | cells h1 h2 => cases hv
    | map h1 =>
      rename_i es ces cl
      generalize hqi : ev e i' = qi at *
      cases qi <;> simp only at hv <;> try (cases hv; done)
      rename_i kk n
      cases hp : stampE n (ev e z') es with
      | none => rw [hp] at hv; cases hv
      | some r =>
        rw [hp] at hv; injection hv with hv; subst hv
        obtain ⟨j, k', v', b', h2, h3, h4, h5⟩ := stampE_idx hp
        obtain ⟨y, hy, vk, vv, hbn⟩ := h1.at_ h2
        have hjl := lt_of_get hy
        have hfi : ces.findIdx? (fun e => (e.born : Int) == n) = some j := by
          rw [Array.findIdx?_eq_some_iff_getElem]
          refine ⟨hjl, ?_, fun j' hj' => ?_⟩
          · rw [Array.getElem?_eq_getElem hjl] at hy; injection hy with hy; rw [hy, hbn]; simpa using h3
          · have hl := h1.1
            simp only [Array.length_toList] at hl
            have hje : j' < es.length := by omega
            obtain ⟨y', hy', _, _, hbn'⟩ := h1.at_ (i := j') (k := es[j'].1) (v := es[j'].2.1) (b := es[j'].2.2) (List.getElem?_eq_getElem hje)
            have := h4 j' es[j'].1 es[j'].2.1 es[j'].2.2 hj' (List.getElem?_eq_getElem hje)
            have hj2 : j' < ces.size := by omega
            rw [Array.getElem?_eq_getElem hj2] at hy'; injection hy' with hy'
            rw [hy', hbn']; simpa using this
        refine ⟨undef, _, G, a.defers, fun next Q hq => ?_, VR.udf_, .refl G, h.turn id bb hb (.map r cl) (.map (ces.modify j fun e => { e with val := a.eval z }) cl) (.map (by rw [h5]; exact h1.set j _ (fun y' hy' => by rw [hy] at hy'; injection hy' with hy'; subst hy'; exact ⟨vk, vz, hbn⟩))), hd, .refl G _ _⟩
        have : (execOp a.eval o).run P w = .ok .skip { w with heap := w.heap.setIfInBounds bb (.map (ces.modify j fun e => { e with val := a.eval z }) cl) } := by
          simp only [execOp, ho, hcm, Instr.entryStore, Sem.run_bind, Sem.run_pure, getObj_map hx, Result.andThen_ok, vi.int_inv, asInt, asIntOf, hfi, setObj_map hx]
        rw [this]; exact hq

end
end Go.Proofs.YtggdpckdlcngpaaDoor.Abs
