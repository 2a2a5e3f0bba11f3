/- append, and all operations that turn the state. -/
import Derived.Test.YtggdpckdlcngpaaDoorAbs8
set_option linter.unusedVariables false
set_option linter.unusedSimpArgs false
namespace Go.Proofs.YtggdpckdlcngpaaDoor.Abs
open Go.RowKit

section
variable {P : Program} {B : Nat} {w0 : World} {G : Gh} {s : ASt} {w : World}

theorem get_lt {α : Type} {l : List α} {i : Nat} {x : α} (h : l[i]? = some x) : i < l.length := by
  rcases Nat.lt_or_ge i l.length with h' | h'
  · exact h'
  · rw [List.getElem?_eq_none h'] at h; cases h

/-- A slice whose cells are told one by one. -/
theorem VR.slice_of {o : Own} {es : List AV} {n cap sz : Nat} {ad : Addr} (h0 : n = es.length) (h1 : SlOK G sz o n (some ad) cap) (h2 : ∀ e ∈ es, e.okc = true ∧ e.cells.length = sz ∧ ∀ x ∈ e.cells, x.isCell = true)
    (hC : ∀ (i : Nat) (e : AV) (j : Nat) (a : AV), es[i]? = some e → e.cells[j]? = some a → ∃ c, G.C (ad.add (i * sz + j)) = some c ∧ VR G a c) : VR G (.slice o es) (.slice (some ad) n cap) := by
  have hall : ∀ j, j < es.length * sz → ∃ c, G.C (ad.add j) = some c := by
    intro j hj
    have hsz : 0 < sz := by
      rcases Nat.eq_zero_or_pos sz with h' | h'
      · rw [h', Nat.mul_zero] at hj; omega
      · exact h'
    have hi : j / sz < es.length := (Nat.div_lt_iff_lt_mul hsz).2 hj
    have he : es[j / sz]? = some es[j / sz] := List.getElem?_eq_getElem hi
    have hcl := (h2 _ (List.getElem_mem hi)).2.1
    have hm : j % sz < es[j / sz].cells.length := by rw [hcl]; exact Nat.mod_lt _ hsz
    obtain ⟨c, hc, _⟩ := hC (j / sz) _ (j % sz) _ he (List.getElem?_eq_getElem hm)
    have : j / sz * sz + j % sz = j := by rw [Nat.mul_comm]; exact Nat.div_add_mod j sz
    rw [this] at hc
    exact ⟨c, hc⟩
  refine .slice sz (fun j => (G.C (ad.add j)).getD undef) h0 h1 h2 (fun _ => rfl) (fun ad' ha j hj => ?_) (fun i e j a hi hj => ?_)
  · injection ha with ha; subst ha
    obtain ⟨c, hc⟩ := hall j hj
    rw [hc]; rfl
  · obtain ⟨c, hc, hv⟩ := hC i e j a hi hj
    simp only [hc, Option.getD_some]; exact hv

theorem VR.elem {o : Own} {es : List AV} {A : Option Addr} {n cap : Nat} (h : VR G (.slice o es) (.slice A n cap)) {sz : Nat} (hs : ∀ e ∈ es, e.cells.length = sz) : n = es.length ∧ (∃ sz', SlOK G sz' o n A cap) ∧
    (∀ e ∈ es, e.okc = true ∧ ∀ x ∈ e.cells, x.isCell = true) ∧ (0 < es.length → ∃ ad, A = some ad) ∧
    ∀ ad, A = some ad → ∃ cl : List Value, cl.length = es.length * sz ∧ (∀ j c, cl[j]? = some c → G.C (ad.add j) = some c) ∧ ∀ (i : Nat) (e : AV) (j : Nat) (a : AV), es[i]? = some e → e.cells[j]? = some a → ∃ c, cl[i * sz + j]? = some c ∧ VR G a c := by
  cases h with
  | slice sz' cv h0 h1 h2 h3 h4 h5 =>
    refine ⟨h0, ⟨sz', h1⟩, fun e he => ⟨(h2 e he).1, (h2 e he).2.2⟩, fun hp => Option.isSome_iff_exists.1 (h3 hp), fun ad ha => ⟨(List.range (es.length * sz)).map cv, by simp, fun j c hj => ?_, fun i e j a hi hj => ?_⟩⟩
    · have hjl := get_lt hj
      simp only [List.length_map, List.length_range] at hjl
      rw [List.getElem?_map, List.getElem?_range hjl] at hj
      injection hj with hj; subst hj
      have hpos : 0 < es.length := by
        rcases Nat.eq_zero_or_pos es.length with h' | h'
        · rw [h', Nat.zero_mul] at hjl; omega
        · exact h'
      have hss : sz' = sz := by
        have hm := List.getElem_mem hpos
        have := (h2 _ hm).2.1; have := hs _ hm; omega
      subst hss
      exact h4 ad ha j hjl
    · have hil := get_lt hi
      have hm := List.mem_of_getElem? hi
      have hss : sz' = sz := by have := (h2 _ hm).2.1; have := hs _ hm; omega
      subst hss
      have hjl := get_lt hj
      rw [(h2 _ hm).2.1] at hjl
      have hlt : i * sz' + j < es.length * sz' := by
        have : (i + 1) * sz' ≤ es.length * sz' := Nat.mul_le_mul_right _ hil
        rw [Nat.succ_mul] at this; omega
      exact ⟨cv (i * sz' + j), by rw [List.getElem?_map, List.getElem?_range hlt]; rfl, h5 i e j a hi hj⟩

theorem sizedV_spec {sz : Nat} {l : List AV} (h : sizedV sz l = true) : ∀ e ∈ l, e.okc = true ∧ e.cells.length = sz := by
  intro e he
  have := List.all_eq_true.1 h e he
  simpa using this

theorem elems_sound (h : Sim B w0 G s w) {y : AV} {c : Value} (hv : VR G y c) {new : List AV} (he : elemsV y = some new) {sz : Nat} (hs : sizedV sz new = true) :
    (Builtin.lenOf c).run P w = .ok new.length w ∧ (∀ e ∈ new, ∀ x ∈ e.cells, x.isCell = true) ∧ ∃ cl : List Value, (Builtin.firstCells sz new.length c).run P w = .ok cl.toArray w ∧ cl.length = new.length * sz ∧
      ∀ (i : Nat) (e : AV) (j : Nat) (a : AV), new[i]? = some e → e.cells[j]? = some a → ∃ c, cl[i * sz + j]? = some c ∧ VR G a c := by
  have hsz := sizedV_spec hs
  cases y <;> simp only [elemsV] at he <;> try (cases he; done)
  · rename_i st
    injection he with he; subst he
    rw [hv.str_inv]
    have hl : (⟨st.toArray⟩ : ByteArray).size = st.length := by simp [ByteArray.size]
    refine ⟨by simp [Builtin.lenOf, hl], fun e he x hx => ?_, st.map fun b => .int .u8 (b.toNat : Int), ?_, ?_, fun i e j a hi hj => ?_⟩
    · obtain ⟨b, _, rfl⟩ := List.mem_map.1 he
      simp only [AV.cells, List.mem_singleton] at hx; subst hx; rfl
    · simp only [Builtin.firstCells, Sem.run_pure, List.length_map]
      congr 1
      apply Array.ext'
      simp
    · cases st with
      | nil => simp
      | cons b st =>
        have := (hsz (.int .u8 b.toNat) (by simp)).2
        simp only [AV.cells, List.length_singleton] at this
        subst this
        simp
    · rw [List.getElem?_map] at hi
      cases hb : st[i]? with
      | none => rw [hb] at hi; cases hi
      | some b =>
        rw [hb] at hi; injection hi with hi; subst hi
        have h1 : sz = 1 := by have := (hsz (.int .u8 b.toNat) (List.mem_map.2 ⟨b, List.mem_of_getElem? hb, rfl⟩)).2; simpa [AV.cells] using this.symm
        subst h1
        have hj0 : j = 0 := by have := get_lt hj; simp [AV.cells] at this; exact this
        subst hj0
        simp only [AV.cells, List.getElem?_cons_zero] at hj
        injection hj with hj; subst hj
        exact ⟨.int .u8 b.toNat, by simp [hb], .int _ _⟩
  · rename_i ow es
    injection he with he; subst he
    generalize hc : c = c' at *
    cases c' <;> try (cases hv; done)
    rename_i A n cap
    obtain ⟨h0, ⟨sz', h1⟩, h2, h3, h4⟩ := hv.elem (sz := sz) (fun e he => (hsz e he).2)
    subst h0
    refine ⟨by simp [Builtin.lenOf], fun e he => (h2 e he).2, ?_⟩
    cases A with
    | none =>
      have : es = [] := by
        cases es with
        | nil => rfl
        | cons e es => obtain ⟨ad, ha⟩ := h3 (by simp); cases ha
      subst this
      exact ⟨[], by simp [Builtin.firstCells], by simp, by simp⟩
    | some ad =>
      obtain ⟨cl, h5, h6, h7⟩ := h4 ad rfl
      refine ⟨cl, ?_, h5, h7⟩
      simp only [Builtin.firstCells]
      rw [← h5]
      exact run_loadCells_list w ad cl (fun j c hj => h.comm _ _ (h6 j c hj))

theorem growBy_le (n : Nat) : ∀ (r c : Nat), c ≤ n + (n + 768) / 4 → Builtin.growBy n r c ≤ n + (n + 768) / 4
  | 0, c, h => h
  | r + 1, c, h => by
    simp only [Builtin.growBy]
    split
    · exact h
    · rename_i hc
      exact growBy_le n r _ (by have : (c + 768) / 4 ≤ (n + 768) / 4 := Nat.div_le_div_right (by omega); omega)

theorem nextslicecap_le {n c : Nat} (h : c < n) : Builtin.nextslicecap n c ≤ 2 * n + 1024 := by
  unfold Builtin.nextslicecap
  split
  · omega
  · split
    · omega
    · have := growBy_le n 4 c (by omega)
      omega

theorem append_sound (h : Sim B w0 G s w) {e : AEnv} {a : Act} (hop : OpdR G e a) (hd : DfrR G s.dfr a.defers) {o : Oper} {c : Call} (ho : o.op = .call c) (hcal : c.callee = .builtin .append) {y z : Operand} (hargs : c.args.toList = [y, z]) {t u el : TypeId} (htys : c.argTypes.toList = [t, u]) {ud : TypeDesc}
    (hu : P.underlying t = some (.slice el)) (hu2 : P.underlying u = some ud) (hni : ∀ k, ud ≠ .int k) {sz bytes : Nat} {zv : Value} (hsz : sizeT P el = some sz) (hby : bytesT P el = some bytes) (hz : zeroVal P el = some zv) (hs0 : sz ≠ 0) (hb0 : bytes ≠ 0) (hzs : zv.cells.size = sz)
    {y' z' : AOpd} (hy : compOpd y = some y') (hzz : compOpd z = some z') {ow : Own} {es new : List AV} (hes : ev e y' = .slice ow es) (hnew : elemsV (ev e z') = some new) {b k : Nat} {v : AV} {s' : ASt} (hv : appV b k sz bytes s ow es new = some (v, s'))
    (hown : b + k < s.ctr ∧ G.Fresh (b + k)) : OpOK P B w0 G s w o a (some (b + k)) v s' := by
  have vy := hop.opd hy
  have vz := hop.opd hzz
  rw [hes] at vy
  unfold appV at hv
  split at hv
  case isFalse => cases hv
  rename_i hcond
  obtain ⟨hmax, hsn⟩ := hcond
  have hsnew := sizedV_spec hsn
  obtain ⟨hlen, hcells, cl, hfirst, hcl, hclr⟩ := elems_sound (P := P) h vz hnew hsn
  obtain ⟨ti, hti, hbi⟩ := r_bytes hby
  -- the slice that is appended to
  generalize hcy : a.eval y = cy at *
  cases cy <;> try (cases vy; done)
  rename_i A n cap
  have run : ∀ cv w', (Builtin.append_ c.argTypes o.type (c.args.map a.eval)).run P w = .ok cv w' → (execOp a.eval o).run P w = .ok (.value cv) w' := by
    intro cv w' h1
    simp only [execOp, ho, resolve, hcal, Sem.run_bind, Sem.run_pure, Result.andThen_ok, invoke, builtin, h1]
  have ha : (c.args.map a.eval) = #[.slice A n cap, a.eval z] := by
    have : c.args = #[y, z] := by apply Array.ext'; rw [hargs]
    rw [this]; simp [hcy]
  have hT : c.argTypes = #[t, u] := by apply Array.ext'; rw [htys]
  have hzeros : ((underlying u).run P w) = .ok ud w := r_und hu2
  have hznot : (match ud with | .int _ => true | _ => false) = false := by cases ud <;> first | rfl | exact absurd rfl (hni _)
  have one : ∀ x ∈ cl, x.oneCell' = true := by
    intro x hx
    obtain ⟨j, hj⟩ := List.getElem?_of_mem hx
    have hjl := get_lt hj
    rw [hcl] at hjl
    have hsz' : 0 < sz := Nat.pos_of_ne_zero hs0
    have hi : j / sz < new.length := (Nat.div_lt_iff_lt_mul hsz').2 hjl
    have he : new[j / sz]? = some new[j / sz] := List.getElem?_eq_getElem hi
    have hm : j % sz < new[j / sz].cells.length := by rw [(hsnew _ (List.getElem_mem hi)).2]; exact Nat.mod_lt _ hsz'
    obtain ⟨c', hc', hvr⟩ := hclr (j / sz) _ (j % sz) _ he (List.getElem?_eq_getElem hm)
    have : j / sz * sz + j % sz = j := by rw [Nat.mul_comm]; exact Nat.div_add_mod j sz
    rw [this, hj] at hc'
    injection hc' with hc'; subst hc'
    exact hvr.one (hcells _ (List.getElem_mem hi) _ (List.getElem_mem hm))
  have hesz : ∀ e ∈ es, e.cells.length = sz := by
    cases ow with
    | foreign => cases hv
    | full =>
      simp only at hv
      split at hv
      · rename_i hsz'
        exact fun e he => (sizedV_spec hsz' e he).2
      · cases hv
    | own id =>
      cases vy with
      | slice sz' cv h0 h1 h2 h3 h4 h5 =>
        obtain ⟨_, bb, _, hI⟩ := h1
        obtain ⟨_, _, ⟨m, hm, _⟩, _⟩ := h.own bb id sz' cap hI
        simp only [hm] at hv
        split at hv
        · rename_i hc
          exact fun e he => by have := (h2 e he).2.1; omega
        · cases hv
  obtain ⟨hn0, ⟨szs, hSl⟩, hok, hA0, hA1⟩ := vy.elem hesz
  -- where there is room
  have room : n + new.length ≤ cap → ∀ w', (∀ ad, A = some ad → (storeCells (ad.add (n * sz)) cl).run P w = .ok () w') → (A = none → w' = w) →
      (Builtin.append_ c.argTypes o.type (c.args.map a.eval)).run P w = .ok (.slice A (n + new.length) cap) w' := by
    intro hr w' h1 h2
    rw [ha, hT]
    simp only [Builtin.append_, List.getElem?_toArray, List.getElem?_cons_zero, List.getElem?_cons_succ, Sem.run_bind, r_und hu, hzeros, Result.andThen_ok, r_size hsz, Sem.run_pure]
    simp only [Bool.false_eq_true, if_false, Sem.run_bind, hlen, Result.andThen_ok, Sem.run_ite, if_pos hr, Bool.not_false, if_true, hfirst]
    cases A with
    | none => rw [h2 rfl]; simp
    | some ad => simp [h1 ad rfl]
  have grow' : ¬ n + new.length ≤ cap → ∀ old cl : List Value, (Builtin.firstCells sz n (.slice A n cap)).run P w.drew = .ok old.toArray w.drew → (Builtin.firstCells sz new.length (a.eval z)).run P w.drew = .ok cl.toArray w.drew →
      ∃ nc, n + new.length ≤ nc ∧ (Builtin.append_ c.argTypes o.type (c.args.map a.eval)).run P w = .ok (.slice (some ⟨w.heap.size, 0, none⟩) (n + new.length) nc)
        { w.drew with heap := w.drew.heap.push (.cells (old.toArray ++ cl.toArray ++ Builtin.zeroCells zv.cells (nc - (n + new.length))) el (0, 0)) } := by
    intro hr old cl h1 h2
    let nc := (Question.appendCap (n + new.length) cap el).cut (w.tape w.drawn (.appendCap (n + new.length) cap el))
    have hnc : n + new.length ≤ nc := by simp only [nc, Question.cut]; omega
    have hnext : ¬ Builtin.nextslicecap (n + new.length) cap * ti.bytes > 2 ^ 48 := by
      have h3 := nextslicecap_le (n := n + new.length) (c := cap) (by omega)
      rw [hbi]
      rw [hn0] at h3 ⊢
      have h4 : Builtin.nextslicecap (es.length + new.length) cap * bytes ≤ (2 * (es.length + new.length) + 1024) * bytes := Nat.mul_le_mul_right _ h3
      omega
    refine ⟨nc, hnc, ?_⟩
    rw [ha, hT]
    simp only [Builtin.append_, List.getElem?_toArray, List.getElem?_cons_zero, List.getElem?_cons_succ, Sem.run_bind, r_und hu, hzeros, Result.andThen_ok, r_size hsz, Sem.run_pure]
    simp only [Bool.false_eq_true, if_false, Sem.run_bind, hlen, Result.andThen_ok, Sem.run_ite, if_neg hr, r_info hti, false_or, hbi, hb0, and_false]
    rw [hbi] at hnext
    simp only [if_neg hnext]
    have hch : (choose (Question.appendCap (n + new.length) cap el)).run P w = .ok nc w.drew := by
      rw [run_choose, if_neg (by simp [Question.forced])]; rfl
    simp only [hch, Result.andThen_ok, r_info hti, run_askRoom, h1, h2, Bool.not_false, if_true, r_zero hz, newRow, Sem.run_bind, run_newObj, Sem.run_pure]
    rfl
  have holdc : ∀ ad, A = some ad → ∃ old : List Value, old.length = es.length * sz ∧ (∀ w2 : World, (∀ a v, G.C a = some v → w2.cell? a = some v) → (Builtin.firstCells sz n (.slice A n cap)).run P w2 = .ok old.toArray w2) ∧ ∀ (i : Nat) (e : AV) (j : Nat) (a : AV), es[i]? = some e → e.cells[j]? = some a → ∃ c, old[i * sz + j]? = some c ∧ VR G a c := by
    intro ad hA
    obtain ⟨old, h1, h2, h3⟩ := hA1 ad hA
    refine ⟨old, h1, fun w2 hw2 => ?_, h3⟩
    rw [hA]
    simp only [Builtin.firstCells]
    rw [hn0, ← h1]
    exact run_loadCells_list w2 ad old (fun j c hj => hw2 _ _ (h2 j c hj))
  have hdrew : Sim B w0 G s w.drew := h.drew
  -- a row that is grown
  have grown : ¬ n + new.length ≤ cap → ∀ id, id < s.ctr → G.ρ id = none → (∀ b sz' cap', G.I b = some (id, sz', cap') → ∀ m', s.heap id = some (.arr m' sz') → m' ≤ es.length + new.length ∧ sz' = sz) → (∀ i, i < s.ctr → some (b + k) ≠ some i → G.Fresh i → i ≠ id) →
      OpOK P B w0 G s w o a (some (b + k)) (.slice (.own id) (es ++ new)) (s.set id (.arr (es.length + new.length) sz)) := by
    intro hr id hid hρ hold hkeep
    obtain ⟨old, ho1, ho2, ho3⟩ : ∃ old : List Value, old.length = es.length * sz ∧ (∀ w2 : World, (∀ a v, G.C a = some v → w2.cell? a = some v) → (Builtin.firstCells sz n (.slice A n cap)).run P w2 = .ok old.toArray w2) ∧ ∀ (i : Nat) (e : AV) (j : Nat) (a : AV), es[i]? = some e → e.cells[j]? = some a → ∃ c, old[i * sz + j]? = some c ∧ VR G a c := by
      cases hA : A with
      | some ad => rw [← hA]; exact holdc ad hA
      | none =>
        have : es = [] := by
          cases hes' : es with
          | nil => rfl
          | cons e0 es' => obtain ⟨ad, h'⟩ := hA0 (by rw [hes']; simp); rw [hA] at h'; cases h'
        subst this
        exact ⟨[], by simp, fun w2 _ => by simp [Builtin.firstCells], by simp⟩
    obtain ⟨_, _, cl2, hf2, hl2, hr2⟩ := elems_sound (P := P) hdrew vz hnew hsn
    have hcl2 : cl2 = cl ∨ True := .inr trivial
    have hf3 : (Builtin.firstCells sz new.length (a.eval z)).run P w.drew = .ok cl2.toArray w.drew := hf2
    obtain ⟨nc, hnc, hrun⟩ := grow' hr old cl2 (ho2 w.drew (fun a v ha => hdrew.comm a v ha)) hf3
    let cs : Array Value := old.toArray ++ cl2.toArray ++ Builtin.zeroCells zv.cells (nc - (n + new.length))
    have hcs : cs.size = nc * sz := by
      simp only [cs, Array.size_append, List.size_toArray, Builtin.zeroCells, Array.size_map, Array.size_range, ho1, hl2, hzs]
      rw [← Nat.add_mul, ← Nat.add_mul, ← hn0]
      congr 1; omega
    obtain ⟨G', hle, hsim, hI, hC, hρ', hI'⟩ := hdrew.grow (i := id) (sz := sz) (m := es.length + new.length) (cap := nc) cs el hid hold hρ hcs
    have hget : ∀ j, j < (es.length + new.length) * sz → cs[j]? = (old ++ cl2)[j]? := by
      intro j hj
      have : j < (old.toArray ++ cl2.toArray).size := by simp only [Array.size_append, List.size_toArray, ho1, hl2, ← Nat.add_mul]; exact hj
      simp only [cs]
      rw [Array.getElem?_append_left this]
      simp
    have hvr : VR G' (.slice (.own id) (es ++ new)) (.slice (some ⟨w.heap.size, 0, none⟩) (n + new.length) nc) := by
      refine VR.slice_of (sz := sz) (by simp [hn0]) ⟨by omega, w.heap.size, rfl, hI⟩ (fun e he => ?_) (fun i e j x hi hj => ?_)
      · rcases List.mem_append.1 he with he | he
        · exact ⟨(hok e he).1, hesz e he, (hok e he).2⟩
        · exact ⟨(hsnew e he).1, (hsnew e he).2, hcells e he⟩
      · rw [add_at, Nat.zero_add]
        have hil := get_lt hi
        rw [List.length_append] at hil
        have hjl := get_lt hj
        by_cases hlt : i < es.length
        · rw [List.getElem?_append_left hlt] at hi
          obtain ⟨c', h1, h2⟩ := ho3 i e j x hi hj
          refine ⟨c', hC _ _ ?_ ?_, h2.mono hle⟩
          · have h5 := get_lt h1
            rw [ho1] at h5
            have : es.length * sz ≤ (es.length + new.length) * sz := Nat.mul_le_mul_right _ (by omega)
            omega
          · have h5 := get_lt h1
            rw [ho1] at h5
            have : es.length * sz ≤ (es.length + new.length) * sz := Nat.mul_le_mul_right _ (by omega)
            rw [hget _ (by omega), List.getElem?_append_left (by rw [ho1]; exact h5)]
            exact h1
        · rw [List.getElem?_append_right (by omega)] at hi
          obtain ⟨c', h1, h2⟩ := hr2 (i - es.length) e j x hi hj
          have h5 := get_lt h1
          rw [hl2] at h5
          have h6 : i * sz + j = es.length * sz + ((i - es.length) * sz + j) := by
            have : i = es.length + (i - es.length) := by omega
            rw [this, Nat.add_mul]; simp only [Nat.add_sub_cancel_left]; omega
          refine ⟨c', ?_, h2.mono hle⟩
          rw [h6]
          refine hC _ _ ?_ ?_
          · rw [Nat.add_mul]; omega
          · rw [hget _ (by rw [Nat.add_mul]; omega), List.getElem?_append_right (by rw [ho1]; omega), ho1, Nat.add_sub_cancel_left]
            exact h1
    refine ⟨.slice (some ⟨w.heap.size, 0, none⟩) (n + new.length) nc, _, G', a.defers, fun next Q hq => ?_, hvr, hle, hsim, hd.mono hle, fun i hi hne hf => ⟨by rw [hρ']; exact hf.1, fun bb x hx => ?_⟩⟩
    · rw [run _ _ hrun]; exact hq
    · by_cases hbb : bb = w.drew.heap.size
      · subst hbb
        rw [hI] at hx
        injection hx with hx; subst hx
        exact fun e => hkeep i hi hne hf e.symm
      · rw [hI' bb hbb] at hx
        exact hf.2 bb x hx
  cases ow with
  | foreign => cases hv
  | full =>
    simp only at hv
    split at hv
    case isFalse => cases hv
    have hcap : cap = n := hSl
    split at hv
    · rename_i hn0'
      injection hv with hv; injection hv with hv1 hv2; subst hv1; subst hv2
      have hnil : new = [] := List.eq_nil_of_length_eq_zero hn0'
      have hclnil : cl = [] := by
        apply List.eq_nil_of_length_eq_zero
        rw [hcl, hn0', Nat.zero_mul]
      have := room (by omega) w (fun ad hA => by rw [hclnil]; rfl) (fun _ => rfl)
      rw [hn0', Nat.add_zero] at this
      have hok' := OpOK.val (own := some (b + k)) h hd (run _ _ this) vy
      exact hok'
    · rename_i hpos
      injection hv with hv; injection hv with hv1 hv2; subst hv1; subst hv2
      exact grown (by omega) (b + k) hown.1 hown.2.1 (fun bb sz' cap' hI => absurd rfl (hown.2.2 bb _ hI)) (fun i _ hne _ e => hne (by rw [e]))
  | own id =>
    simp only at hv
    cases hid : s.heap id with
    | none => rw [hid] at hv; cases hv
    | some ob =>
      rw [hid] at hv
      cases ob with
      | cells l => cases hv
      | map l q => cases hv
      | arr m sz' =>
        simp only at hv
        split at hv
        case isFalse => cases hv
        rename_i hc
        obtain ⟨hm, hs⟩ := hc
        subst hm; subst hs
        injection hv with hv; injection hv with hv1 hv2; subst hv1; subst hv2
        obtain ⟨hle0, bb, hAb, hI⟩ := hSl
        subst hAb
        obtain ⟨hB1, hictr, ⟨m', hm', hCm⟩, cs, ty, hx, hcsz⟩ := h.own bb id szs cap hI
        rw [hid] at hm'; injection hm' with hm'; injection hm' with hm' hsz2; subst hm'; subst hsz2
        by_cases hr : n + new.length ≤ cap
        · obtain ⟨G', hle, hsim, hC, hρ', hI'⟩ := h.extend hI hid hx cl hcl (by omega)
          have hst := run_storeCells P bb (n * sz') ty cl 0 w cs hx (by rw [hcl, hcsz, Nat.add_zero, ← Nat.add_mul]; exact Nat.mul_le_mul_right _ hr) one
          rw [Nat.add_zero, hn0] at hst
          have hrun := room hr _ (fun ad hA => by injection hA with hA; subst hA; rw [add_at, Nat.zero_add, hn0]; exact hst) (fun hA => by cases hA)
          obtain ⟨old, ho1, ho4, ho3⟩ := hA1 _ rfl
          have hvr : VR G' (.slice (.own id) (es ++ new)) (.slice (some ⟨bb, 0, none⟩) (n + new.length) cap) := by
            refine VR.slice_of (sz := sz') (by simp [hn0]) ⟨hr, bb, rfl, by rw [hI']; exact hI⟩ (fun e he => ?_) (fun i e j x hi hj => ?_)
            · rcases List.mem_append.1 he with he | he
              · exact ⟨(hok e he).1, hesz e he, (hok e he).2⟩
              · exact ⟨(hsnew e he).1, (hsnew e he).2, hcells e he⟩
            · by_cases hlt : i < es.length
              · rw [List.getElem?_append_left hlt] at hi
                obtain ⟨c', h1, h2⟩ := ho3 i e j x hi hj
                exact ⟨c', hle.C _ _ (ho4 _ _ h1), h2.mono hle⟩
              · rw [List.getElem?_append_right (by omega)] at hi
                obtain ⟨c', h1, h2⟩ := hclr (i - es.length) e j x hi hj
                have h6 : i * sz' + j = es.length * sz' + ((i - es.length) * sz' + j) := by
                  have : i = es.length + (i - es.length) := by omega
                  rw [this, Nat.add_mul]; simp only [Nat.add_sub_cancel_left]; omega
                refine ⟨c', ?_, h2.mono hle⟩
                rw [add_at, Nat.zero_add, h6]
                exact hC _ _ h1
          exact ⟨_, _, G', a.defers, fun next Q hq => by rw [run _ _ hrun]; exact hq, hvr, hle, hsim, hd.mono hle, .same _ _ hρ' hI'⟩
        · exact grown hr id hictr (by
            cases hρ : G.ρ id with
            | none => rfl
            | some b' =>
              obtain ⟨_, _, _, ob, x, hob, _, hr'⟩ := h.obj id b' hρ
              rw [hid] at hob; injection hob with hob; subst hob; cases hr') (fun b1 sz1 cap1 hI1 m1 hm1 => by
              rw [hid] at hm1; injection hm1 with hm1; injection hm1 with e1 e2
              exact ⟨by omega, e2.symm⟩) (fun i _ _ hf e => by subst e; exact hf.2 bb _ hI rfl)

/-- Operations that turn the state. -/
theorem opW_sound (h : Sim B w0 G s w) {e : AEnv} {a : Act} (hop : OpdR G e a) (hd : DfrR G s.dfr a.defers) {o : Oper} {k b : Nat} {x : AOp} (hc : compOp P k o.op = some x) {v : AV} {s' : ASt} (hv : opW (ev e) b s x = some (v, s'))
    (hown : ∀ n, x.ownId b = some n → n < s.ctr ∧ G.Fresh n) : OpOK P B w0 G s w o a (x.ownId b) v s' := by
  cases ho : o.op <;> rw [ho] at hc <;> simp only [compOp] at hc <;> try (cases hc; done)
  case move y => cases hy : compOpd y <;> rw [hy] at hc <;> first | (cases hc; done) | (injection hc with hc; subst hc; cases hv)
  case assign y => cases hy : compOpd y <;> rw [hy] at hc <;> first | (cases hc; done) | (injection hc with hc; subst hc; cases hv)
  case pick c y z =>
    split at hc
    · injection hc with hc; subst hc; cases hv
    · cases hc
  case alloc t =>
    split at hc
    · injection hc with hc; subst hc; cases hv
    · cases hc
  case box t y =>
    split at hc
    · rename_i y' n hy hn
      injection hc with hc; subst hc
      simp only [opW] at hv
      split at hv
      · rename_i hok
        injection hv with hv; injection hv with hv1 hv2; subst hv1; subst hv2
        have vy := hop.opd hy
        obtain ⟨hi, hf⟩ := hown (b + k) rfl
        exact new_sound h hi hf hd (.cells (ev e y').cells) (.cells (a.eval y).cells t (0, 0)) (.cells vy.cells_ (vy.cells_ok hok)) (.pointer (some ⟨w.heap.size, 0, none⟩))
          (by simp [execOp, ho, Instr.box, newVar, newRow]) (fun G' _ hρ => .ptr hρ)
      · cases hv
    · cases hc
  case build t parts =>
    split at hc
    · split at hc
      · cases hp : structParts P _ parts.toList <;> rw [hp] at hc <;> first | (cases hc; done) | (injection hc with hc; subst hc; cases hv)
      · cases hc
    · split at hc
      · cases hp : arrParts _ parts.toList <;> rw [hp] at hc <;> first | (cases hc; done) | (injection hc with hc; subst hc; cases hv)
      · cases hc
    · cases hc
  case buildSlice t len parts =>
    split at hc
    · split at hc
      · split at hc
        · cases hp : rowParts parts.toList 0 <;> rw [hp] at hc <;> first | (cases hc; done) | (injection hc with hc; subst hc; cases hv)
        · cases hc
      · cases hc
    · cases hc
  case load t y =>
    split at hc
    · split at hc
      · injection hc with hc; subst hc; cases hv
      · cases hc
    · cases hc
  case store t y z =>
    split at hc
    · rename_i sz y' z' hs hy hz
      injection hc with hc; subst hc
      simp only [opW] at hv
      cases hst : stV sz s (ev e z') (ev e y') with
      | none => rw [hst] at hv; cases hv
      | some s1 =>
        rw [hst] at hv; injection hv with hv; injection hv with hv1 hv2; subst hv1; subst hv2
        exact store_sound h hop hd ho hs hy hz hst b
    · cases hc
  case nilCheck y => cases hy : compOpd y <;> rw [hy] at hc <;> first | (cases hc; done) | (injection hc with hc; subst hc; cases hv)
  case binOp op t y z u =>
    split at hc
    · unfold compBin at hc
      split at hc
      · injection hc with hc; subst hc; cases hv
      · injection hc with hc; subst hc; cases hv
      · cases hn : isEq op <;> rw [hn] at hc <;> first | (cases hc; done) | (injection hc with hc; subst hc; cases hv)
      · cases hn : isEq op <;> rw [hn] at hc <;> first | (cases hc; done) | (injection hc with hc; subst hc; cases hv)
      · split at hc
        · split at hc
          · cases hc
          · injection hc with hc; subst hc; cases hv
        · cases hc
    · cases hc
  case unOp op t y => cases hy : compOpd y <;> rw [hy] at hc <;> first | (cases hc; done) | (injection hc with hc; subst hc; cases hv)
  case convert src dst y =>
    cases hy : compOpd y <;> rw [hy] at hc <;> first | (cases hc; done) | skip
    simp only [Option.bind_some] at hc
    unfold compConv at hc
    split at hc
    · injection hc with hc; subst hc; cases hv
    · injection hc with hc; subst hc; cases hv
    · injection hc with hc; subst hc; cases hv
    · split at hc
      · injection hc with hc; subst hc; cases hv
      · cases hc
    · cases hc
  case makeFunc fn first captured =>
    cases fn <;> simp only at hc <;> try (cases hc; done)
    split at hc
    · injection hc with hc; subst hc; cases hv
    · cases hc
  case makeMap t r =>
    cases r <;> simp only at hc
    · injection hc with hc; subst hc
      simp only [opW] at hv
      injection hv with hv; injection hv with hv1 hv2; subst hv1; subst hv2
      obtain ⟨hi, hf⟩ := hown (b + k) rfl
      exact new_sound h hi hf hd (.map [] 0) (.map #[] 0) (.map ⟨rfl, by simp⟩) (.map (some w.heap.size)) (by simp [execOp, ho, Instr.makeMap]) (fun G' _ hρ => .map hρ)
    · cases hc
  case slice t y lo hi mx =>
    cases mx <;> simp only at hc
    · split at hc
      · unfold compSlice at hc
        split at hc
        · injection hc with hc; subst hc; cases hv
        · cases hs : sizeT P _ <;> rw [hs] at hc <;> first | (cases hc; done) | (injection hc with hc; subst hc; cases hv)
        · cases hs : sizeT P _ <;> rw [hs] at hc <;> first | (cases hc; done) | (injection hc with hc; subst hc; cases hv)
        · cases hc
      · cases hc
    · cases hc
  case fieldAddr t y f =>
    split at hc
    · split at hc
      · split at hc
        · split at hc
          · injection hc with hc; subst hc; cases hv
          · cases hc
        · cases hc
      · cases hc
    · cases hc
  case field t y f =>
    split at hc
    · split at hc
      · split at hc
        · injection hc with hc; subst hc; cases hv
        · cases hc
      · cases hc
    · cases hc
  case indexAddr t y i =>
    split at hc
    · cases hs : sizeT P _ <;> rw [hs] at hc <;> first | (cases hc; done) | (injection hc with hc; subst hc; cases hv)
    · cases hs : sizeT P _ <;> rw [hs] at hc <;> first | (cases hc; done) | (injection hc with hc; subst hc; cases hv)
    · cases hc
  case index t y i =>
    split at hc
    · injection hc with hc; subst hc; cases hv
    · split at hc
      · injection hc with hc; subst hc; cases hv
      · cases hc
    · cases hc
  case lookup t m i ok =>
    split at hc
    · split at hc
      · injection hc with hc; subst hc; cases hv
      · cases hc
    · cases hc
  case mapUpdate t m i z =>
    split at hc
    · rename_i kt et m' i' z' hu hm hi hz
      cases hkt : mapKeyT P kt with
      | none => rw [hkt] at hc; cases hc
      | some kk =>
        rw [hkt] at hc; injection hc with hc; subst hc
        simp only [opW, keyed] at hv
        split at hv
        case isFalse => cases hv
        rename_i hkey
        obtain ⟨rk, hrk⟩ := Option.isSome_iff_exists.1 hkey
        cases hup : updM kk s (ev e i') (ev e z') (ev e m') with
        | none => rw [hup] at hv; cases hv
        | some s1 =>
          rw [hup] at hv; injection hv with hv; injection hv with hv1 hv2; subst hv1; subst hv2
          exact upd_sound h hop hd (.inl ho) hu hm hi hz hkt hrk hup
    · cases hc
  case insert t m i z =>
    split at hc
    · rename_i kt et m' i' z' hu hm hi hz
      cases hkt : mapKeyT P kt with
      | none => rw [hkt] at hc; cases hc
      | some kk =>
        rw [hkt] at hc; injection hc with hc; subst hc
        simp only [opW, keyed] at hv
        split at hv
        case isFalse => cases hv
        rename_i hkey
        obtain ⟨rk, hrk⟩ := Option.isSome_iff_exists.1 hkey
        cases hup : updM kk s (ev e i') (ev e z') (ev e m') with
        | none => rw [hup] at hv; cases hv
        | some s1 =>
          rw [hup] at hv; injection hv with hv; injection hv with hv1 hv2; subst hv1; subst hv2
          exact upd_sound h hop hd (.inr ho) hu hm hi hz hkt hrk hup
    · cases hc
  case mapEntry t m i =>
    split at hc
    · rename_i kt et m' i' hu hm hi
      split at hc
      · rename_i kk zz hkt hz
        injection hc with hc; subst hc
        simp only [opW, keyed] at hv
        split at hv
        case isFalse => cases hv
        rename_i hkey
        obtain ⟨rk, hrk⟩ := Option.isSome_iff_exists.1 hkey
        exact touch_sound h hop hd ho hu hm hi hkt hz hrk hv
      · cases hc
    · cases hc
  case entryStore t m i z =>
    split at hc
    · rename_i m' i' z' hm hi hz
      injection hc with hc; subst hc
      simp only [opW] at hv
      cases hup : stampM s (ev e i') (ev e z') (ev e m') with
      | none => rw [hup] at hv; cases hv
      | some s1 =>
        rw [hup] at hv; injection hv with hv; injection hv with hv1 hv2; subst hv1; subst hv2
        exact stamp_sound h hop hd ho hm hi hz hup
    · cases hc
  case extract y n => cases hy : compOpd y <;> rw [hy] at hc <;> first | (cases hc; done) | (injection hc with hc; subst hc; cases hv)
  case call c =>
    unfold compCall at hc
    split at hc
    · split at hc
      · injection hc with hc; subst hc; cases hv
      · cases hc
    · split at hc
      · rename_i y t hargs htys
        cases hy : compOpd y <;> rw [hy] at hc <;> first | (cases hc; done) | skip
        simp only [Option.bind_some] at hc
        unfold compLen at hc
        split at hc
        · injection hc with hc; subst hc; cases hv
        · injection hc with hc; subst hc; cases hv
        · injection hc with hc; subst hc; cases hv
        · injection hc with hc; subst hc; cases hv
        · cases hc
      · cases hc
    · rename_i hcal
      split at hc
      · rename_i y z t u hargs htys
        split at hc
        · rename_i y' z' hy hz
          unfold compAppend at hc
          split at hc
          · cases hc
          · rename_i el ud hni hu hu2
            split at hc
            · rename_i sz bytes zv hsz hby hzv
              split at hc
              · rename_i hcond
                injection hc with hc; subst hc
                simp only [opW] at hv
                split at hv
                · rename_i ow es new hes hnew
                  exact append_sound h hop hd ho hcal hargs htys hu hu2 (fun kq e1 => hni kq e1) hsz hby hzv hcond.1 hcond.2.1 hcond.2.2 hy hz hes hnew hv (hown (b + k) rfl)
                · cases hv
              · cases hc
            · cases hc
          · cases hc
        · cases hc
      · cases hc
    · split at hc
      · split at hc
        · injection hc with hc; subst hc; cases hv
        · cases hc
      · cases hc
    · split at hc
      · split at hc
        · injection hc with hc; subst hc; cases hv
        · cases hc
      · cases hc
    · cases hc
  case defer c =>
    split at hc
    · rename_i f hcal
      split at hc
      · rename_i f' l hf hl
        injection hc with hc; subst hc
        simp only [opW] at hv
        have vf := hop.opd hf
        have vl := hop.opds hl
        generalize hq : ev e f' = q at *
        cases q <;> simp only at hv <;> try (cases hv; done)
        rename_i g first captured
        injection hv with hv; injection hv with hv1 hv2; subst hv1; subst hv2
        obtain ⟨p, r, hp, h1, h2⟩ := vf.func_inv
        have hrun : (execOp a.eval o).run P w = .ok (.defer { target := .fn (.func g) r, args := p ++ c.args.map a.eval }) w := by
          simp only [execOp, ho, resolve, hcal, hp, Deferred.ofValue, Sem.run_bind, Sem.run_pure, Result.andThen_ok]
        refine ⟨undef, w, G, { target := .fn (.func g) r, args := p ++ c.args.map a.eval } :: a.defers, fun next Q hq => by rw [hrun]; exact hq, VR.udf_, .refl G, ?_, ⟨⟨r, rfl, ?_⟩, hd⟩, .refl G _ _⟩
        · exact h.state (Nat.le_refl _) (fun _ _ _ => rfl)
        · have : (p ++ Array.map a.eval c.args ++ r).toList = p.toList ++ c.args.toList.map a.eval ++ r.toList := by simp
          rw [this]
          exact (h1.append vl).append h2
      · cases hc
    · cases hc

end
end Go.Proofs.YtggdpckdlcngpaaDoor.Abs
