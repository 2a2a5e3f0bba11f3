/- What a state of the abstract machine says of a world. -/
import Derived.Test.YtggdpckdlcngpaaDoorAbs1
set_option linter.unusedVariables false
namespace Go.Proofs.YtggdpckdlcngpaaDoor.Abs
open Go.RowKit

/-- Which block an object is; cells that never turn any more; rows that are appended to: their number, an element's size, their capacity. -/
structure Gh where
  ρ : Nat → Option Nat
  C : Addr → Option Value
  I : Nat → Option (Nat × Nat × Nat)

structure Gh.Le (G G' : Gh) : Prop where
  ρ : ∀ i b, G.ρ i = some b → G'.ρ i = some b
  C : ∀ a v, G.C a = some v → G'.C a = some v
  I : ∀ b x, G.I b = some x → G'.I b = some x

theorem Gh.Le.refl (G : Gh) : G.Le G := ⟨fun _ _ h => h, fun _ _ h => h, fun _ _ h => h⟩
theorem Gh.Le.trans {G G' G'' : Gh} (h : G.Le G') (k : G'.Le G'') : G.Le G'' :=
  ⟨fun _ _ x => k.ρ _ _ (h.ρ _ _ x), fun _ _ x => k.C _ _ (h.C _ _ x), fun _ _ x => k.I _ _ (h.I _ _ x)⟩

def SlOK (G : Gh) (sz : Nat) : Own → Nat → Option Addr → Nat → Prop
  | .full, n, _, cap => cap = n
  | .foreign, n, _, cap => n ≤ cap
  | .own id, n, A, cap => n ≤ cap ∧ ∃ b, A = some ⟨b, 0, none⟩ ∧ G.I b = some (id, sz, cap)

theorem SlOK.mono {G G' : Gh} (h : G.Le G') {sz : Nat} {o : Own} {n : Nat} {A : Option Addr} {cap : Nat} (k : SlOK G sz o n A cap) : SlOK G' sz o n A cap := by
  cases o with
  | full => exact k
  | foreign => exact k
  | own id => obtain ⟨h1, b, h2, h3⟩ := k; exact ⟨h1, b, h2, h.I _ _ h3⟩

theorem SlOK.le {G : Gh} {sz : Nat} {o : Own} {n : Nat} {A : Option Addr} {cap : Nat} (k : SlOK G sz o n A cap) : n ≤ cap := by
  cases o with
  | full => exact Nat.le_of_eq k.symm
  | foreign => exact k
  | own id => exact k.1

/-- A number that is no object's yet. -/
def Gh.Fresh (G : Gh) (i : Nat) : Prop := G.ρ i = none ∧ ∀ b x, G.I b = some x → x.1 ≠ i

/-- Numbers below n that are no object's stay so (but for one). -/
def Gh.Keep (G : Gh) (n : Nat) (own : Option Nat) (G' : Gh) : Prop := ∀ i, i < n → own ≠ some i → G.Fresh i → G'.Fresh i

theorem Gh.Keep.same {G G' : Gh} (n : Nat) (own : Option Nat) (h1 : G'.ρ = G.ρ) (h2 : G'.I = G.I) : G.Keep n own G' := fun i _ _ hf => ⟨by rw [h1]; exact hf.1, by rw [h2]; exact hf.2⟩
theorem Gh.Keep.refl (G : Gh) (n : Nat) (own : Option Nat) : G.Keep n own G := .same n own rfl rfl

/-- A value of the abstract machine, and one of the model. -/
inductive VR (G : Gh) : AV → Value → Prop
  | bool (b : Bool) : VR G (.bool b) (.bool b)
  | int (k : IntKind) (n : Int) : VR G (.int k n) (.int k n)
  | str (s : List UInt8) : VR G (.str s) (.string ⟨s.toArray⟩)
  | nilp : VR G .nilp (.pointer none)
  | ptr {id off b : Nat} : G.ρ id = some b → VR G (.ptr id off) (.pointer (some ⟨b, off, none⟩))
  | eref {cells : List AV} {ad : Addr} (cv : Nat → Value) : (∀ j, j < cells.length → G.C (ad.add j) = some (cv j)) →
      (∀ (j : Nat) (a : AV), cells[j]? = some a → VR G a (cv j)) → (∀ x ∈ cells, x.isCell = true) → VR G (.eref cells) (.pointer (some ad))
  | slice {o : Own} {es : List AV} {A : Option Addr} {n cap : Nat} (sz : Nat) (cv : Nat → Value) : n = es.length → SlOK G sz o n A cap → (∀ e ∈ es, e.okc = true ∧ e.cells.length = sz ∧ ∀ x ∈ e.cells, x.isCell = true) →
      (0 < es.length → A.isSome = true) → (∀ ad, A = some ad → ∀ j, j < es.length * sz → G.C (ad.add j) = some (cv j)) →
      (∀ (i : Nat) (e : AV) (j : Nat) (a : AV), es[i]? = some e → e.cells[j]? = some a → VR G a (cv (i * sz + j))) → VR G (.slice o es) (.slice A n cap)
  | mslice {id off len cap b off' : Nat} : G.ρ id = some b → (cap ≠ 0 → off' = off) → len ≤ cap → VR G (.mslice id off len cap) (.slice (some ⟨b, off', none⟩) len cap)
  | map {id b : Nat} : G.ρ id = some b → VR G (.map id) (.map (some b))
  | nilmap : VR G .nilmap (.map none)
  | func {f : Nat} {first captured : List AV} (a b : Array Value) : a.size = first.length → (∀ (j : Nat) (x : AV) (y : Value), first[j]? = some x → a[j]? = some y → VR G x y) →
      b.size = captured.length → (∀ (j : Nat) (x : AV) (y : Value), captured[j]? = some x → b[j]? = some y → VR G x y) → VR G (.func f first captured) (.func (.func f) a b)
  | nilfunc : VR G .nilfunc .nilFunc
  | agg {l : List AV} (a : Array Value) : a.size = l.length → (∀ (j : Nat) (x : AV) (y : Value), l[j]? = some x → a[j]? = some y → VR G x y) → (∀ x ∈ l, x.isCell = true) → VR G (.agg l) (.agg a)
  | tuple {l : List AV} (a : Array Value) : a.size = l.length → (∀ (j : Nat) (x : AV) (y : Value), l[j]? = some x → a[j]? = some y → VR G x y) → VR G (.tuple l) (.tuple a)

theorem VR.mono {G G' : Gh} (h : G.Le G') {v : AV} {c : Value} (k : VR G v c) : VR G' v c := by
  induction k with
  | bool b => exact .bool b
  | int k n => exact .int k n
  | str s => exact .str s
  | nilp => exact .nilp
  | ptr h1 => exact .ptr (h.ρ _ _ h1)
  | eref cv h1 _ h3 ih => exact .eref cv (fun j hj => h.C _ _ (h1 j hj)) ih h3
  | slice sz cv h0 h1 h2 h3 h4 _ ih => exact .slice sz cv h0 (h1.mono h) h2 h3 (fun ad e j hj => h.C _ _ (h4 ad e j hj)) ih
  | mslice h1 h2 h3 => exact .mslice (h.ρ _ _ h1) h2 h3
  | map h1 => exact .map (h.ρ _ _ h1)
  | nilmap => exact .nilmap
  | func a b h1 _ h3 _ ih1 ih2 => exact .func a b h1 ih1 h3 ih2
  | nilfunc => exact .nilfunc
  | agg a h1 _ h3 ih => exact .agg a h1 ih h3
  | tuple a h1 _ ih => exact .tuple a h1 ih

/-- Lists of values, one by one. -/
def VRs (G : Gh) (l : List AV) (c : List Value) : Prop := c.length = l.length ∧ ∀ (j : Nat) (x : AV) (y : Value), l[j]? = some x → c[j]? = some y → VR G x y

theorem VRs.mono {G G' : Gh} (h : G.Le G') {l : List AV} {c : List Value} (k : VRs G l c) : VRs G' l c := ⟨k.1, fun j x y a b => (k.2 j x y a b).mono h⟩
theorem VRs.nil (G : Gh) : VRs G [] [] := ⟨rfl, fun j x y h => by simp at h⟩
theorem VRs.cons {G : Gh} {x : AV} {y : Value} {l : List AV} {c : List Value} (h : VR G x y) (k : VRs G l c) : VRs G (x :: l) (y :: c) := by
  refine ⟨by simp [k.1], fun j a b ha hb => ?_⟩
  cases j with
  | zero => simp at ha hb; subst ha hb; exact h
  | succ j => exact k.2 j a b (by simpa using ha) (by simpa using hb)
theorem VRs.head {G : Gh} {x : AV} {y : Value} {l : List AV} {c : List Value} (k : VRs G (x :: l) (y :: c)) : VR G x y := k.2 0 x y rfl rfl
theorem VRs.tail {G : Gh} {x : AV} {y : Value} {l : List AV} {c : List Value} (k : VRs G (x :: l) (y :: c)) : VRs G l c :=
  ⟨by have := k.1; simpa using this, fun j a b ha hb => k.2 (j + 1) a b (by simpa using ha) (by simpa using hb)⟩
theorem VRs.cons_inv {G : Gh} {x : AV} {l : List AV} {c : List Value} (k : VRs G (x :: l) c) : ∃ y c', c = y :: c' ∧ VR G x y ∧ VRs G l c' := by
  cases c with
  | nil => have := k.1; simp at this
  | cons y c => exact ⟨y, c, rfl, k.head, k.tail⟩
theorem VRs.nil_inv {G : Gh} {c : List Value} (k : VRs G [] c) : c = [] := by have := k.1; simpa using this
theorem VRs.append {G : Gh} {l m : List AV} {c d : List Value} (h : VRs G l c) (k : VRs G m d) : VRs G (l ++ m) (c ++ d) := by
  refine ⟨by simp [h.1, k.1], fun j x y hx hy => ?_⟩
  by_cases hj : j < l.length
  · rw [List.getElem?_append_left hj] at hx
    rw [List.getElem?_append_left (by rw [h.1]; exact hj)] at hy
    exact h.2 j x y hx hy
  · rw [List.getElem?_append_right (by omega)] at hx
    rw [List.getElem?_append_right (by rw [h.1]; omega), h.1] at hy
    exact k.2 _ x y hx hy
theorem VRs.take {G : Gh} {l : List AV} {c : List Value} (h : VRs G l c) (n : Nat) : VRs G (l.take n) (c.take n) := by
  refine ⟨by simp [h.1], fun j x y hx hy => ?_⟩
  rw [List.getElem?_take] at hx hy
  split at hx
  · rename_i hj; rw [if_pos hj] at hy; exact h.2 j x y hx hy
  · simp at hx
theorem VRs.drop {G : Gh} {l : List AV} {c : List Value} (h : VRs G l c) (n : Nat) : VRs G (l.drop n) (c.drop n) := by
  refine ⟨by simp [h.1], fun j x y hx hy => ?_⟩
  rw [List.getElem?_drop] at hx hy
  exact h.2 _ x y hx hy
theorem VRs.get {G : Gh} {l : List AV} {c : List Value} (h : VRs G l c) {j : Nat} {x : AV} (hx : l[j]? = some x) : ∃ y, c[j]? = some y ∧ VR G x y := by
  have hj : j < l.length := by
    rcases Nat.lt_or_ge j l.length with h' | h'
    · exact h'
    · rw [List.getElem?_eq_none h'] at hx; simp at hx
  have hj' : j < c.length := by rw [h.1]; exact hj
  exact ⟨c[j], List.getElem?_eq_getElem hj', h.2 j x _ hx (List.getElem?_eq_getElem hj')⟩

theorem VR.agg' {G : Gh} {l : List AV} {a : Array Value} (h : VRs G l a.toList) (hc : ∀ x ∈ l, x.isCell = true) : VR G (.agg l) (.agg a) :=
  .agg a (by have := h.1; simpa using this) (fun j x y hx hy => h.2 j x y hx (by simpa using hy)) hc
theorem VR.tuple' {G : Gh} {l : List AV} {a : Array Value} (h : VRs G l a.toList) : VR G (.tuple l) (.tuple a) :=
  .tuple a (by have := h.1; simpa using this) (fun j x y hx hy => h.2 j x y hx (by simpa using hy))
theorem VR.agg_inv {G : Gh} {l : List AV} {c : Value} (h : VR G (.agg l) c) : ∃ a : Array Value, c = .agg a ∧ VRs G l a.toList ∧ ∀ x ∈ l, x.isCell = true := by
  cases h with
  | agg a h1 h2 h3 => exact ⟨a, rfl, ⟨by simpa using h1, fun j x y hx hy => h2 j x y hx (by simpa using hy)⟩, h3⟩
theorem VR.tuple_inv {G : Gh} {l : List AV} {c : Value} (h : VR G (.tuple l) c) : ∃ a : Array Value, c = .tuple a ∧ VRs G l a.toList := by
  cases h with
  | tuple a h1 h2 => exact ⟨a, rfl, by simpa using h1, fun j x y hx hy => h2 j x y hx (by simpa using hy)⟩
theorem VR.func_inv {G : Gh} {f : Nat} {first captured : List AV} {c : Value} (h : VR G (.func f first captured) c) :
    ∃ a b : Array Value, c = .func (.func f) a b ∧ VRs G first a.toList ∧ VRs G captured b.toList := by
  cases h with
  | func a b h1 h2 h3 h4 => exact ⟨a, b, rfl, ⟨by simpa using h1, fun j x y hx hy => h2 j x y hx (by simpa using hy)⟩, ⟨by simpa using h3, fun j x y hx hy => h4 j x y hx (by simpa using hy)⟩⟩
theorem VR.func' {G : Gh} {f : Nat} {first captured : List AV} {a b : Array Value} (h : VRs G first a.toList) (k : VRs G captured b.toList) : VR G (.func f first captured) (.func (.func f) a b) :=
  .func a b (by simpa using h.1) (fun j x y hx hy => h.2 j x y hx (by simpa using hy)) (by simpa using k.1) (fun j x y hx hy => k.2 j x y hx (by simpa using hy))

theorem VR.udf_ {G : Gh} : VR G udf undef := .tuple #[] rfl (fun j x y h => by simp at h)

/-- The cells of a value. -/
theorem VR.cells_ {G : Gh} {v : AV} {c : Value} (h : VR G v c) : VRs G v.cells c.cells.toList := by
  cases h with
  | agg a h1 h2 _ => exact ⟨by simpa [AV.cells, Value.cells] using h1, fun j x y hx hy => h2 j x y (by simpa [AV.cells] using hx) (by simpa [Value.cells] using hy)⟩
  | bool b => exact VRs.cons (.bool b) (VRs.nil G)
  | int k n => exact VRs.cons (.int k n) (VRs.nil G)
  | str s => exact VRs.cons (.str s) (VRs.nil G)
  | nilp => exact VRs.cons .nilp (VRs.nil G)
  | ptr h1 => exact VRs.cons (.ptr h1) (VRs.nil G)
  | eref cv h1 h2 h3 => exact VRs.cons (.eref cv h1 h2 h3) (VRs.nil G)
  | slice sz cv h0 h1 h2 h3 h4 h5 => exact VRs.cons (.slice sz cv h0 h1 h2 h3 h4 h5) (VRs.nil G)
  | mslice h1 h2 h3 => exact VRs.cons (.mslice h1 h2 h3) (VRs.nil G)
  | map h1 => exact VRs.cons (.map h1) (VRs.nil G)
  | nilmap => exact VRs.cons .nilmap (VRs.nil G)
  | func a b h1 h2 h3 h4 => exact VRs.cons (.func a b h1 h2 h3 h4) (VRs.nil G)
  | nilfunc => exact VRs.cons .nilfunc (VRs.nil G)
  | tuple a h1 h2 => exact VRs.cons (.tuple a h1 h2) (VRs.nil G)

/-- The cells of a value are single ones. -/
theorem VR.cells_ok {G : Gh} {v : AV} {c : Value} (h : VR G v c) (ho : v.okc = true) : ∀ x ∈ v.cells, x.isCell = true := by
  cases h with
  | agg a h1 h2 h3 => exact h3
  | tuple a h1 h2 => simp [AV.okc] at ho
  | _ => intro x hx; simp only [AV.cells, List.mem_singleton] at hx; subst hx; rfl

theorem VR.one {G : Gh} {v : AV} {c : Value} (h : VR G v c) (ho : v.isCell = true) : c.oneCell' = true := by
  cases h with
  | agg a h1 h2 h3 => simp [AV.isCell] at ho
  | tuple a h1 h2 => simp [AV.isCell] at ho
  | _ => rfl

def EntR (G : Gh) (es : List (AV × AV × Nat)) (ces : List MapEntry) : Prop :=
  ces.length = es.length ∧ ∀ (j : Nat) (k v : AV) (n : Nat) (y : MapEntry), es[j]? = some (k, v, n) → ces[j]? = some y → VR G k y.key ∧ VR G v y.val ∧ y.born = n

theorem EntR.mono {G G' : Gh} (h : G.Le G') {es : List (AV × AV × Nat)} {ces : List MapEntry} (k : EntR G es ces) : EntR G' es ces :=
  ⟨k.1, fun j a b n y h1 h2 => let ⟨p, q, r⟩ := k.2 j a b n y h1 h2; ⟨p.mono h, q.mono h, r⟩⟩

/-- Deferred calls. -/
def DfrR (G : Gh) : List (Nat × List AV) → List Deferred → Prop
  | [], [] => True
  | (f, l) :: r, d :: ds => (∃ cap, d.target = .fn (.func f) cap ∧ VRs G l (d.args ++ cap).toList) ∧ DfrR G r ds
  | _, _ => False

theorem DfrR.mono {G G' : Gh} (h : G.Le G') : ∀ {l : List (Nat × List AV)} {ds : List Deferred}, DfrR G l ds → DfrR G' l ds
  | [], [], _ => trivial
  | (f, l) :: r, d :: ds, ⟨⟨cap, h1, h2⟩, h3⟩ => ⟨⟨cap, h1, h2.mono h⟩, DfrR.mono h h3⟩
  | [], _ :: _, k => k.elim
  | _ :: _, [], k => k.elim

/-- An object, and a block. -/
inductive ObjR (G : Gh) : AObj → Obj → Prop
  | cells {l : List AV} {cs : Array Value} {t : TypeId} : VRs G l cs.toList → (∀ x ∈ l, x.isCell = true) → ObjR G (.cells l) (.cells cs t (0, 0))
  | map {es : List (AV × AV × Nat)} {ces : Array MapEntry} {c : Nat} : EntR G es ces.toList → ObjR G (.map es c) (.map ces c)

theorem ObjR.mono {G G' : Gh} (h : G.Le G') {o : AObj} {b : Obj} (k : ObjR G o b) : ObjR G' o b := by
  cases k with
  | cells h1 h2 => exact .cells (h1.mono h) h2
  | map h1 => exact .map (h1.mono h)

structure Sim (B : Nat) (w0 : World) (G : Gh) (s : ASt) (w : World) : Prop where
  below : Below B w0 w
  hB : B ≤ w0.heap.size
  num : ∀ i b, G.ρ i = some b → i < s.ctr
  inj : ∀ i j b, G.ρ i = some b → G.ρ j = some b → i = j
  obj : ∀ i b, G.ρ i = some b → B ≤ b ∧ G.I b = none ∧ (∀ a, a.block = b → G.C a = none) ∧ ∃ o x, s.heap i = some o ∧ w.heap[b]? = some x ∧ ObjR G o x
  comm : ∀ a v, G.C a = some v → w.cell? a = some v
  own : ∀ b i sz cap, G.I b = some (i, sz, cap) → B ≤ b ∧ i < s.ctr ∧ (∃ m, s.heap i = some (.arr m sz) ∧ ∀ a, a.block = b → (G.C a).isSome = true → a.off < m * sz) ∧
    ∃ cs t, w.heap[b]? = some (.cells cs t (0, 0)) ∧ cs.size = cap * sz

theorem lt_of_get {α : Type} {a : Array α} {i : Nat} {x : α} (h : a[i]? = some x) : i < a.size := by
  rcases Nat.lt_or_ge i a.size with h' | h'
  · exact h'
  · simp [Array.getElem?_eq_none h'] at h

section
variable {B : Nat} {w0 : World} {G : Gh} {s : ASt} {w : World}

theorem Sim.le (h : Sim B w0 G s w) : B ≤ w.heap.size := Nat.le_trans h.hB h.below.size
theorem Sim.blk_lt (h : Sim B w0 G s w) {i b : Nat} (hi : G.ρ i = some b) : b < w.heap.size := by
  obtain ⟨_, _, _, o, x, _, hx, _⟩ := h.obj i b hi
  exact lt_of_get hx
theorem Sim.com_lt (h : Sim B w0 G s w) {a : Addr} {v : Value} (hi : G.C a = some v) : a.block < w.heap.size := World.block_lt_of_cell? w a (h.comm a v hi)
theorem Sim.own_lt (h : Sim B w0 G s w) {b : Nat} {x : Nat × Nat × Nat} (hi : G.I b = some x) : b < w.heap.size := by
  obtain ⟨i, sz, cap⟩ := x
  obtain ⟨_, _, _, cs, t, hx, _⟩ := h.own b i sz cap hi
  exact lt_of_get hx

/-- A draw. -/
theorem Sim.drew (h : Sim B w0 G s w) : Sim B w0 G s { w with drawn := w.drawn + 1 } :=
  ⟨⟨h.below.os, h.below.tape, h.below.output, h.below.size, h.below.block⟩, h.hB, h.num, h.inj, h.obj, h.comm, h.own⟩

/-- Only what is kept of a state matters. -/
theorem Sim.state (h : Sim B w0 G s w) {s' : ASt} (hc : s.ctr ≤ s'.ctr) (hh : ∀ i, i < s.ctr → ¬ G.Fresh i → s'.heap i = s.heap i) : Sim B w0 G s' w := by
  refine ⟨h.below, h.hB, fun i b hi => Nat.lt_of_lt_of_le (h.num i b hi) hc, h.inj, fun i b hi => ?_, h.comm, fun b i sz cap hi => ?_⟩
  · obtain ⟨h1, h2, h3, o, x, ho, hx, hr⟩ := h.obj i b hi
    exact ⟨h1, h2, h3, o, x, by rw [hh i (h.num i b hi) (fun hf => by have := hf.1; rw [hi] at this; cases this)]; exact ho, hx, hr⟩
  · obtain ⟨h1, h2, ⟨m, h3, h4⟩, h5⟩ := h.own b i sz cap hi
    exact ⟨h1, Nat.lt_of_lt_of_le h2 hc, ⟨m, by rw [hh i h2 (fun hf => hf.2 b _ hi rfl)]; exact h3, h4⟩, h5⟩

theorem Sim.set_fresh (h : Sim B w0 G s w) {i : Nat} (hf : G.Fresh i) (o : AObj) : Sim B w0 G (s.set i o) w :=
  h.state (Nat.le_refl _) fun j _ hj => by simp only [ASt.set]; rw [if_neg (by rintro rfl; exact hj hf)]

/-- Numbers that are none's are no objects. -/
theorem Sim.fresh_ge (h : Sim B w0 G s w) {i : Nat} (hi : s.ctr ≤ i) : G.Fresh i := by
  refine ⟨?_, fun b x hb e => ?_⟩
  · cases hρ : G.ρ i with
    | none => rfl
    | some b => have := h.num i b hρ; omega
  · obtain ⟨i', sz, cap⟩ := x
    have := (h.own b i' sz cap hb).2.1
    simp only at e; omega

theorem heap_push_lt (w : World) (o : Obj) {k : Nat} (h : k < w.heap.size) : (w.heap.push o)[k]? = w.heap[k]? := by
  rw [Array.getElem?_push, if_neg (by omega)]
theorem heap_push_eq (w : World) (o : Obj) : (w.heap.push o)[w.heap.size]? = some o := by
  rw [Array.getElem?_push, if_pos rfl]

theorem cell_push_lt (w : World) (o : Obj) {a : Addr} (h : a.block < w.heap.size) : ({ w with heap := w.heap.push o } : World).cell? a = w.cell? a := by
  simp only [World.cell?, heap_push_lt w o h]

theorem Below.push (h : Below B w0 w) (hB : B ≤ w.heap.size) (o : Obj) : Below B w0 { w with heap := w.heap.push o } := by
  refine ⟨h.os, h.tape, h.output, ?_, fun k hk => ?_⟩
  · simp only [Array.size_push]; have := h.size; omega
  · show (w.heap.push o)[k]? = _
    rw [heap_push_lt w o (by omega)]; exact h.block k hk

/-- A new object of one's own. -/
theorem Sim.fresh (h : Sim B w0 G s w) (i : Nat) (hi : i < s.ctr) (hn : G.ρ i = none) (ob : AObj) (o : Obj)
    (hs : s.heap i = some ob) (hr : ObjR G ob o) : ∃ G', G.Le G' ∧ Sim B w0 G' s { w with heap := w.heap.push o } ∧ G'.ρ i = some w.heap.size ∧ (∀ j, j ≠ i → G'.ρ j = G.ρ j) ∧ G'.I = G.I := by
  let G' : Gh := { G with ρ := fun j => if j = i then some w.heap.size else G.ρ j }
  have hle : G.Le G' := ⟨fun j b hj => by
    show (if j = i then _ else _) = _
    rw [if_neg (by rintro rfl; rw [hn] at hj; cases hj)]; exact hj, fun _ _ x => x, fun _ _ x => x⟩
  refine ⟨G', hle, ⟨Below.push h.below h.le o, h.hB, fun j b hj => ?_, fun j k b hj hk => ?_, fun j b hj => ?_, fun a v ha => ?_, fun b j sz cap hb => ?_⟩, by simp [G'], fun j hj => by simp [G', hj], rfl⟩
  · by_cases e : j = i
    · subst e; exact hi
    · simp only [G', if_neg e] at hj; exact h.num j b hj
  · by_cases e : j = i
    · by_cases e' : k = i
      · rw [e, e']
      · simp only [G', if_pos e, if_neg e'] at hj hk
        injection hj with hj; subst hj
        exact absurd (h.blk_lt hk) (by omega)
    · by_cases e' : k = i
      · simp only [G', if_neg e, if_pos e'] at hj hk
        injection hk with hk; subst hk
        exact absurd (h.blk_lt hj) (by omega)
      · simp only [G', if_neg e, if_neg e'] at hj hk
        exact h.inj j k b hj hk
  · by_cases e : j = i
    · subst e
      simp only [G', if_true] at hj
      injection hj with hj; subst hj
      refine ⟨h.le, ?_, ?_, ob, o, hs, heap_push_eq w o, hr.mono hle⟩
      · cases hI : G.I w.heap.size with
        | none => rfl
        | some x => exact absurd (h.own_lt hI) (by omega)
      · intro a ha
        cases hC : G.C a with
        | none => rfl
        | some v => exact absurd (h.com_lt hC) (by omega)
    · simp only [G', if_neg e] at hj
      obtain ⟨h1, h2, h3, o', x, ho, hx, hr'⟩ := h.obj j b hj
      exact ⟨h1, h2, h3, o', x, ho, by rw [heap_push_lt w o (h.blk_lt hj)]; exact hx, hr'.mono hle⟩
  · rw [cell_push_lt w o (h.com_lt ha)]; exact h.comm a v ha
  · obtain ⟨h1, h2, h3, cs, t, hx, h5⟩ := h.own b j sz cap hb
    exact ⟨h1, h2, h3, cs, t, by rw [heap_push_lt w o (h.own_lt hb)]; exact hx, h5⟩

/-- New cells that never turn. -/
theorem Sim.commit (h : Sim B w0 G s w) (cs : Array Value) (t : TypeId) (fr : Nat × Nat) :
    ∃ G', G.Le G' ∧ Sim B w0 G' s { w with heap := w.heap.push (.cells cs t fr) } ∧ (∀ j v, cs[j]? = some v → G'.C ⟨w.heap.size, j, none⟩ = some v) ∧ G'.ρ = G.ρ ∧ G'.I = G.I := by
  let G' : Gh := { G with C := fun a => if a.block = w.heap.size then (if a.spot.isSome then none else cs[a.off]?) else G.C a }
  have hnone : ∀ a : Addr, a.block = w.heap.size → G.C a = none := fun a ha => by
    cases hC : G.C a with
    | none => rfl
    | some v => exact absurd (h.com_lt hC) (by omega)
  have hle : G.Le G' := ⟨fun _ _ x => x, fun a v ha => by
    show (if a.block = w.heap.size then _ else _) = _
    rw [if_neg (by intro e; rw [hnone a e] at ha; cases ha)]; exact ha, fun _ _ x => x⟩
  refine ⟨G', hle, ⟨Below.push h.below h.le _, h.hB, h.num, h.inj, fun j b hj => ?_, fun a v ha => ?_, fun b j sz cap hb => ?_⟩, fun j v hj => by simp [G', hj], rfl, rfl⟩
  · obtain ⟨h1, h2, h3, o', x, ho, hx, hr'⟩ := h.obj j b hj
    have := h.blk_lt hj
    refine ⟨h1, h2, fun a ha => ?_, o', x, ho, by rw [heap_push_lt w _ (h.blk_lt hj)]; exact hx, hr'.mono hle⟩
    simp only [G']; rw [if_neg (by omega)]; exact h3 a ha
  · simp only [G'] at ha
    by_cases e : a.block = w.heap.size
    · rw [if_pos e] at ha
      split at ha
      · cases ha
      · rename_i hs'
        simp only [World.cell?, e, heap_push_eq]
        rw [if_neg hs']; exact ha
    · rw [if_neg e] at ha
      rw [cell_push_lt w _ (h.com_lt ha)]; exact h.comm a v ha
  · obtain ⟨h1, h2, ⟨m, h3, h4⟩, cs', t', hx, h5⟩ := h.own b j sz cap hb
    have := h.own_lt hb
    refine ⟨h1, h2, ⟨m, h3, fun a ha hs' => h4 a ha ?_⟩, cs', t', by rw [heap_push_lt w _ (h.own_lt hb)]; exact hx, h5⟩
    simp only [G'] at hs'; rw [if_neg (by omega)] at hs'; exact hs'

/-- A block of one's own is another one. -/
theorem Sim.turn (h : Sim B w0 G s w) (i b : Nat) (hi : G.ρ i = some b) (ob : AObj) (o : Obj) (hr : ObjR G ob o) :
    Sim B w0 G (s.set i ob) { w with heap := w.heap.setIfInBounds b o } := by
  have hb := h.blk_lt hi
  obtain ⟨hB1, hI1, hC1, o1, x1, ho1, hx1, hr1⟩ := h.obj i b hi
  have hne : ∀ k, k ≠ b → (w.heap.setIfInBounds b o)[k]? = w.heap[k]? := fun k hk => by
    rw [Array.getElem?_setIfInBounds, if_neg (by omega)]
  have heq : (w.heap.setIfInBounds b o)[b]? = some o := by
    rw [Array.getElem?_setIfInBounds, if_pos rfl, if_pos hb]
  refine ⟨⟨h.below.os, h.below.tape, h.below.output, ?_, fun k hk => ?_⟩, h.hB, h.num, h.inj, fun j b' hj => ?_, fun a v ha => ?_, fun b' j sz cap hb' => ?_⟩
  · simp only [Array.size_setIfInBounds]; exact h.below.size
  · show (w.heap.setIfInBounds b o)[k]? = _
    rw [hne k (by omega)]; exact h.below.block k hk
  · obtain ⟨h1, h2, h3, o', x, ho, hx, hr'⟩ := h.obj j b' hj
    by_cases e : j = i
    · subst e
      rw [hi] at hj; injection hj with hj; subst hj
      exact ⟨h1, h2, h3, ob, o, by simp [ASt.set], heq, hr⟩
    · have : b' ≠ b := by rintro rfl; exact e (h.inj j i b' hj hi)
      exact ⟨h1, h2, h3, o', x, by simp only [ASt.set, if_neg e]; exact ho, by show (w.heap.setIfInBounds b o)[b']? = _; rw [hne b' this]; exact hx, hr'⟩
  · have : a.block ≠ b := by intro e; rw [hC1 a e] at ha; cases ha
    have h2 := h.comm a v ha
    simp only [World.cell?] at h2 ⊢
    rw [hne a.block this]; exact h2
  · obtain ⟨h1, h2, ⟨m, h3, h4⟩, cs', t', hx, h5⟩ := h.own b' j sz cap hb'
    have hbb : b' ≠ b := by rintro rfl; rw [hI1] at hb'; cases hb'
    have hji : j ≠ i := by
      rintro rfl
      rw [ho1] at h3
      injection h3 with h3
      subst h3
      cases hr1
    exact ⟨h1, h2, ⟨m, by simp only [ASt.set, if_neg hji]; exact h3, h4⟩, cs', t', by show (w.heap.setIfInBounds b o)[b']? = _; rw [hne b' hbb]; exact hx, h5⟩

/-- cells from 'off' on are others -/
def putCells (cs : Array Value) (off : Nat) : List Value → Array Value
  | [] => cs
  | v :: vs => putCells (cs.setIfInBounds off v) (off + 1) vs

theorem putCells_size (cs : Array Value) (off : Nat) (vs : List Value) : (putCells cs off vs).size = cs.size := by
  induction vs generalizing cs off with
  | nil => rfl
  | cons v vs ih => simp [putCells, ih]

theorem putCells_get (cs : Array Value) (off : Nat) (vs : List Value) (j : Nat) (hs : off + vs.length ≤ cs.size) :
    (putCells cs off vs)[j]? = if off ≤ j ∧ j < off + vs.length then vs[j - off]? else cs[j]? := by
  induction vs generalizing cs off with
  | nil => simp only [putCells, List.length_nil]; rw [if_neg (by omega)]
  | cons v vs ih =>
    simp only [List.length_cons] at hs
    simp only [putCells]
    rw [ih _ _ (by simp; omega), List.length_cons]
    by_cases h1 : off + 1 ≤ j ∧ j < off + 1 + vs.length
    · rw [if_pos h1, if_pos (by omega)]
      obtain ⟨k, rfl⟩ : ∃ k, j = off + 1 + k := ⟨j - off - 1, by omega⟩
      rw [show off + 1 + k - (off + 1) = k from by omega, show off + 1 + k - off = k + 1 from by omega]
      rfl
    · rw [if_neg h1, Array.getElem?_setIfInBounds]
      by_cases h2 : off = j
      · subst h2
        rw [if_pos rfl, if_pos (by omega), if_pos (by omega)]
        simp
      · rw [if_neg h2, if_neg (by omega)]

theorem setCell_at (w : World) (b off : Nat) (v : Value) (cs : Array Value) (t : TypeId) (fz : Nat × Nat) (h : w.heap[b]? = some (.cells cs t fz)) :
    w.setCell ⟨b, off, none⟩ v = { w with heap := w.heap.setIfInBounds b (.cells (cs.setIfInBounds off v) t fz) } := by
  have hb := lt_of_get h
  unfold World.setCell
  congr 1
  apply Array.ext_getElem?
  intro i
  rw [Array.getElem?_modify, Array.getElem?_setIfInBounds]
  by_cases e : b = i
  · subst e
    rw [if_pos rfl, if_pos rfl, if_pos hb, h]
    rfl
  · rw [if_neg e, if_neg e]

theorem setIn_setIn (w : World) (b : Nat) (x y : Obj) : ({ w with heap := (w.heap.setIfInBounds b x).setIfInBounds b y } : World) = { w with heap := w.heap.setIfInBounds b y } := by
  congr 1
  apply Array.ext_getElem?
  intro i
  simp only [Array.getElem?_setIfInBounds, Array.size_setIfInBounds]
  split <;> rfl

theorem setIn_same (w : World) (b : Nat) (x : Obj) (h : w.heap[b]? = some x) : ({ w with heap := w.heap.setIfInBounds b x } : World) = w := by
  have : w.heap.setIfInBounds b x = w.heap := by
    apply Array.ext_getElem?
    intro i
    rw [Array.getElem?_setIfInBounds]
    by_cases e : b = i
    · subst e
      rw [if_pos rfl, if_pos (lt_of_get h), h]
    · rw [if_neg e]
  rw [this]

theorem heap_setIn (w : World) (b : Nat) (x y : Obj) (h : w.heap[b]? = some y) : (w.heap.setIfInBounds b x)[b]? = some x := by
  rw [Array.getElem?_setIfInBounds, if_pos rfl, if_pos (lt_of_get h)]

theorem add_at (b off i : Nat) : (⟨b, off, none⟩ : Addr).add i = ⟨b, off + i, none⟩ := by
  unfold Addr.add; split
  · rename_i h; subst h; rfl
  · rfl

/-- Cells of one block, not frozen, are stored into. -/
theorem run_storeCells (P : Program) (b off : Nat) (t : TypeId) : ∀ (vs : List Value) (i : Nat) (w : World) (cs : Array Value), w.heap[b]? = some (.cells cs t (0, 0)) →
    off + i + vs.length ≤ cs.size → (∀ v ∈ vs, v.oneCell' = true) →
    (storeCells ⟨b, off, none⟩ vs i).run P w = .ok () { w with heap := w.heap.setIfInBounds b (.cells (putCells cs (off + i) vs) t (0, 0)) } := by
  intro vs
  induction vs with
  | nil =>
    intro i w cs h hs hv
    simp only [storeCells, Sem.run_pure, putCells]
    rw [setIn_same w b _ h]
  | cons v vs ih =>
    intro i w cs h hs hv
    simp only [List.length_cons] at hs
    have hc : w.cell? ⟨b, off + i, none⟩ = some cs[off + i] := by
      simp only [World.cell?, h]
      rw [Array.getElem?_eq_getElem (by omega)]; rfl
    have hf : w.frozen? ⟨b, off + i, none⟩ = false := by simp [World.frozen?, h]
    simp only [storeCells, Sem.run_bind, add_at]
    rw [run_store P w _ v .plain (hv v (by simp)), hc]
    simp only [hf, Bool.false_eq_true, if_false, Result.andThen_ok]
    rw [setCell_at w b (off + i) v cs t (0, 0) h]
    rw [ih (i + 1) _ (cs.setIfInBounds (off + i) v) (heap_setIn w b _ _ h) (by simp; omega) (fun u hu => hv u (by simp [hu]))]
    simp only [setIn_setIn, putCells]
    rw [show off + (i + 1) = off + i + 1 from by omega]

/-- An append in place. -/
theorem Sim.extend (h : Sim B w0 G s w) {b i sz cap m k : Nat} {cs : Array Value} {t : TypeId} (hI : G.I b = some (i, sz, cap)) (hm : s.heap i = some (.arr m sz))
    (hx : w.heap[b]? = some (.cells cs t (0, 0))) (vs : List Value) (hv : vs.length = k * sz) (hcap : m + k ≤ cap) :
    ∃ G', G.Le G' ∧ Sim B w0 G' (s.set i (.arr (m + k) sz)) { w with heap := w.heap.setIfInBounds b (.cells (putCells cs (m * sz) vs) t (0, 0)) } ∧
      (∀ j v, vs[j]? = some v → G'.C ⟨b, m * sz + j, none⟩ = some v) ∧ G'.ρ = G.ρ ∧ G'.I = G.I := by
  obtain ⟨hB, hi, ⟨m', hm', hC⟩, cs', t', hx', hsz⟩ := h.own b i sz cap hI
  rw [hx] at hx'; injection hx' with hx'; injection hx' with e1 e2; subst e1; subst e2
  rw [hm] at hm'; injection hm' with hm'; injection hm' with hm'; subst hm'
  have hb := lt_of_get hx
  have hroom : m * sz + vs.length ≤ cs.size := by rw [hv, hsz, ← Nat.add_mul]; exact Nat.mul_le_mul_right _ hcap
  let inNew : Addr → Bool := fun a => a.block == b && a.spot.isNone && decide (m * sz ≤ a.off ∧ a.off < m * sz + vs.length)
  let G' : Gh := { G with C := fun a => if inNew a then vs[a.off - m * sz]? else G.C a }
  have hnone : ∀ a : Addr, inNew a = true → G.C a = none := fun a ha => by
    simp only [inNew, Bool.and_eq_true, beq_iff_eq, decide_eq_true_eq] at ha
    cases hc : G.C a with
    | none => rfl
    | some v => exact absurd (hC a ha.1.1 (by simp [hc])) (by omega)
  have hle : G.Le G' := ⟨fun _ _ x => x, fun a v ha => by
    show (if inNew a then _ else _) = _
    rw [if_neg (by intro e; rw [hnone a e] at ha; cases ha)]; exact ha, fun _ _ x => x⟩
  have hne : ∀ k', k' ≠ b → (w.heap.setIfInBounds b (.cells (putCells cs (m * sz) vs) t (0, 0)))[k']? = w.heap[k']? := fun k' hk => by
    rw [Array.getElem?_setIfInBounds, if_neg (by omega)]
  have heq := heap_setIn w b (.cells (putCells cs (m * sz) vs) t (0, 0)) _ hx
  refine ⟨G', hle, ⟨⟨h.below.os, h.below.tape, h.below.output, ?_, fun k' hk => ?_⟩, h.hB, h.num, h.inj, fun j b' hj => ?_, fun a v ha => ?_, fun b' j sz' cap' hb' => ?_⟩, fun j v hj => ?_, rfl, rfl⟩
  · simp only [Array.size_setIfInBounds]; exact h.below.size
  · show (w.heap.setIfInBounds b _)[k']? = _
    rw [hne k' (by omega)]; exact h.below.block k' hk
  · obtain ⟨h1, h2, h3, o', x, ho, hx', hr'⟩ := h.obj j b' hj
    have hbb : b' ≠ b := by rintro rfl; rw [hI] at h2; cases h2
    have hji : j ≠ i := by
      rintro rfl
      rw [hm] at ho; injection ho with ho; subst ho; cases hr'
    refine ⟨h1, h2, fun a ha => ?_, o', x, by simp only [ASt.set, if_neg hji]; exact ho, by show (w.heap.setIfInBounds b _)[b']? = _; rw [hne b' hbb]; exact hx', hr'.mono hle⟩
    simp only [G']
    rw [if_neg (by simp only [inNew, Bool.and_eq_true, beq_iff_eq]; rintro ⟨⟨e, _⟩, _⟩; omega)]
    exact h3 a ha
  · simp only [G'] at ha
    by_cases e : inNew a = true
    · rw [if_pos e] at ha
      simp only [inNew, Bool.and_eq_true, beq_iff_eq, decide_eq_true_eq, Option.isNone_iff_eq_none] at e
      obtain ⟨⟨e1, e2⟩, e3⟩ := e
      simp only [World.cell?, e1, e2, heq]
      simp only [Option.isSome_none, Bool.false_eq_true, if_false]
      rw [putCells_get _ _ _ _ hroom, if_pos e3]; exact ha
    · rw [if_neg e] at ha
      have h2 := h.comm a v ha
      by_cases e1 : a.block = b
      · simp only [World.cell?, e1, heq]
        simp only [World.cell?, e1, hx] at h2
        by_cases e2 : a.spot.isSome = true
        · rw [if_pos e2] at h2; cases h2
        · rw [if_neg e2] at h2 ⊢
          rw [putCells_get _ _ _ _ hroom, if_neg]
          · exact h2
          · intro e3
            apply e
            simp only [inNew, Bool.and_eq_true, beq_iff_eq, decide_eq_true_eq]
            exact ⟨⟨e1, by simpa using e2⟩, e3⟩
      · simp only [World.cell?] at h2 ⊢
        rw [hne a.block e1]; exact h2
  · obtain ⟨h1, h2, ⟨m', h3, h4⟩, cs', t', hx', h5⟩ := h.own b' j sz' cap' hb'
    by_cases hji : j = i
    · subst hji
      rw [hm] at h3; injection h3 with h3; injection h3 with h3 h3'; subst h3; subst h3'
      refine ⟨h1, h2, ⟨m + k, by simp [ASt.set], fun a ha hs' => ?_⟩, ?_⟩
      · simp only [G'] at hs'
        by_cases e : inNew a = true
        · simp only [inNew, Bool.and_eq_true, decide_eq_true_eq] at e
          rw [Nat.add_mul, ← hv]; exact e.2.2
        · rw [if_neg e] at hs'
          have := h4 a ha hs'
          have h6 : m * sz ≤ (m + k) * sz := Nat.mul_le_mul_right _ (by omega)
          omega
      · by_cases e : b' = b
        · subst e
          refine ⟨_, t, heq, ?_⟩
          rw [hI] at hb'; injection hb' with hb'; injection hb' with _ hb'; injection hb' with _ hb'
          rw [putCells_size, hsz, hb']
        · exact ⟨cs', t', by show (w.heap.setIfInBounds b _)[b']? = _; rw [hne b' e]; exact hx', h5⟩
    · have e : b' ≠ b := by rintro rfl; rw [hI] at hb'; injection hb' with hb'; injection hb' with hb' _; exact hji hb'.symm
      refine ⟨h1, h2, ⟨m', by simp only [ASt.set, if_neg hji]; exact h3, fun a ha hs' => h4 a ha ?_⟩, cs', t', by show (w.heap.setIfInBounds b _)[b']? = _; rw [hne b' e]; exact hx', h5⟩
      simp only [G'] at hs'
      rw [if_neg (by simp only [inNew, Bool.and_eq_true, beq_iff_eq]; rintro ⟨⟨e', _⟩, _⟩; omega)] at hs'
      exact hs'
  · simp only [G']
    have hj' : j < vs.length := by
      rcases Nat.lt_or_ge j vs.length with h' | h'
      · exact h'
      · rw [List.getElem?_eq_none h'] at hj; cases hj
    rw [if_pos (by simp only [inNew, Bool.and_eq_true, beq_iff_eq, decide_eq_true_eq]; exact ⟨⟨trivial, rfl⟩, by omega, by omega⟩)]
    rw [show m * sz + j - m * sz = j from by omega]; exact hj

/-- A row that is grown: a new block. 'm' elements stand in it; it may grow on. -/
theorem Sim.grow (h : Sim B w0 G s w) {i sz m cap : Nat} (cs : Array Value) (t : TypeId) (hi : i < s.ctr)
    (hold : ∀ b sz' cap', G.I b = some (i, sz', cap') → ∀ m', s.heap i = some (.arr m' sz') → m' ≤ m ∧ sz' = sz) (hn : G.ρ i = none)
    (hsz : cs.size = cap * sz) :
    ∃ G', G.Le G' ∧ Sim B w0 G' (s.set i (.arr m sz)) { w with heap := w.heap.push (.cells cs t (0, 0)) } ∧ G'.I w.heap.size = some (i, sz, cap) ∧
      (∀ j v, j < m * sz → cs[j]? = some v → G'.C ⟨w.heap.size, j, none⟩ = some v) ∧ G'.ρ = G.ρ ∧ (∀ b, b ≠ w.heap.size → G'.I b = G.I b) := by
  let newC : Addr → Option Value := fun a => if a.block = w.heap.size then (if a.spot.isSome then none else if a.off < m * sz then cs[a.off]? else none) else G.C a
  let G' : Gh := { ρ := G.ρ, I := fun b => if b = w.heap.size then some (i, sz, cap) else G.I b, C := newC }
  have hnone : ∀ a : Addr, a.block = w.heap.size → G.C a = none := fun a ha => by
    cases hC : G.C a with
    | none => rfl
    | some v => exact absurd (h.com_lt hC) (by omega)
  have hle : G.Le G' := ⟨fun _ _ x => x, fun a v ha => by
    show (if a.block = w.heap.size then _ else _) = _
    rw [if_neg (by intro e; rw [hnone a e] at ha; cases ha)]; exact ha, fun b x hb => by
    show (if b = w.heap.size then _ else _) = _
    rw [if_neg (by intro e; have := h.own_lt hb; omega)]; exact hb⟩
  refine ⟨G', hle, ⟨Below.push h.below h.le _, h.hB, h.num, h.inj, fun j b hj => ?_, fun a v ha => ?_, fun b j sz' cap' hb => ?_⟩, by simp [G'], fun j v hj hv => by simp [G', newC, hj, hv], rfl, fun b hb => by simp [G', hb]⟩
  · obtain ⟨h1, h2, h3, o', x, ho, hx, hr'⟩ := h.obj j b hj
    have := h.blk_lt hj
    have hji : j ≠ i := by rintro rfl; rw [hn] at hj; cases hj
    refine ⟨h1, ?_, fun a ha => ?_, o', x, by simp only [ASt.set, if_neg hji]; exact ho, by rw [heap_push_lt w _ (h.blk_lt hj)]; exact hx, hr'.mono hle⟩
    · simp only [G']; rw [if_neg (by omega)]; exact h2
    · simp only [G', newC]; rw [if_neg (by omega)]; exact h3 a ha
  · simp only [G', newC] at ha
    by_cases e : a.block = w.heap.size
    · rw [if_pos e] at ha
      split at ha
      · cases ha
      · rename_i hs'
        split at ha
        · simp only [World.cell?, e, heap_push_eq]
          rw [if_neg hs']; exact ha
        · cases ha
    · rw [if_neg e] at ha
      rw [cell_push_lt w _ (h.com_lt ha)]; exact h.comm a v ha
  · simp only [G'] at hb
    by_cases e : b = w.heap.size
    · rw [if_pos e] at hb
      injection hb with hb; injection hb with e1 hb; injection hb with e2 e3
      subst e1; subst e2; subst e3; subst e
      refine ⟨h.le, hi, ⟨m, by simp [ASt.set], fun a ha hs' => ?_⟩, cs, t, heap_push_eq w _, hsz⟩
      simp only [G', newC] at hs'
      rw [if_pos ha] at hs'
      split at hs'
      · simp at hs'
      · split at hs'
        · assumption
        · simp at hs'
    · rw [if_neg e] at hb
      obtain ⟨h1, h2, ⟨m', h3, h4⟩, cs', t', hx, h5⟩ := h.own b j sz' cap' hb
      have := h.own_lt hb
      refine ⟨h1, h2, ?_, cs', t', by rw [heap_push_lt w _ (h.own_lt hb)]; exact hx, h5⟩
      by_cases hji : j = i
      · subst hji
        obtain ⟨hle', hsz'⟩ := hold b sz' cap' hb m' h3
        subst hsz'
        refine ⟨m, by simp [ASt.set], fun a ha hs' => ?_⟩
        simp only [G', newC] at hs'
        rw [if_neg (by omega)] at hs'
        have h6 := h4 a ha hs'
        have h7 : m' * sz' ≤ m * sz' := Nat.mul_le_mul_right _ hle'
        omega
      · refine ⟨m', by simp only [ASt.set, if_neg hji]; exact h3, fun a ha hs' => h4 a ha ?_⟩
        simp only [G', newC] at hs'
        rw [if_neg (by omega)] at hs'
        exact hs'

end
end Go.Proofs.YtggdpckdlcngpaaDoor.Abs
