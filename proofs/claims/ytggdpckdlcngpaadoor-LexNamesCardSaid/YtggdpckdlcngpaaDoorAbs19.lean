/- Frames; rows that are appended to. -/
import Derived.Test.YtggdpckdlcngpaaDoorAbs18
set_option linter.unusedVariables false
set_option linter.unusedSimpArgs false
namespace Go.Proofs.YtggdpckdlcngpaaDoor.Abs
open Go.RowKit

/-- At a call's beginning. -/
def s0 : ASt := ⟨fun _ => none, 0, []⟩

/-- Objects that there were are as they were, but for some. -/
def Fr (h : Hp) (c : Nat) (h' : Hp) (c' : Nat) (l : List Nat) : Prop := c ≤ c' ∧ ∀ j, j < c → j ∉ l → h' j = h j

theorem Fr.refl (h : Hp) (c : Nat) (l : List Nat) : Fr h c h c l := ⟨Nat.le_refl _, fun _ _ _ => rfl⟩
theorem Fr.trans {h h1 h2 : Hp} {c c1 c2 : Nat} {l l' : List Nat} (a : Fr h c h1 c1 l) (b : Fr h1 c1 h2 c2 l') (hl : ∀ i ∈ l', i ∈ l ∨ c ≤ i) : Fr h c h2 c2 l :=
  ⟨Nat.le_trans a.1 b.1, fun j hj hn => (b.2 j (Nat.lt_of_lt_of_le hj a.1) fun hm => (hl j hm).elim hn fun h => by omega).trans (a.2 j hj hn)⟩
theorem Fr.upd {h h1 : Hp} {c c1 c2 : Nat} {l : List Nat} (a : Fr h c h1 c1 l) {i : Nat} (o : AObj) (hi : i ∈ l ∨ c ≤ i) (hc : c1 ≤ c2) : Fr h c (upd h1 i o) c2 l :=
  ⟨Nat.le_trans a.1 hc, fun j hj hn => by
    have : j ≠ i := fun e => hi.elim (fun h => hn (e ▸ h)) fun h => by omega
    rw [upd_ne _ _ this]; exact a.2 j hj hn⟩
theorem Fr.more {h h1 : Hp} {c c1 c2 : Nat} {l : List Nat} (a : Fr h c h1 c1 l) (hc : c1 ≤ c2) : Fr h c h1 c2 l := ⟨Nat.le_trans a.1 hc, a.2⟩
theorem Fr.wide {h h1 : Hp} {c c1 : Nat} {l l' : List Nat} (a : Fr h c h1 c1 l) (hl : ∀ i ∈ l, i ∈ l') : Fr h c h1 c1 l' := ⟨a.1, fun j hj hn => a.2 j hj fun h => hn (hl j h)⟩
theorem Fr.le {h h1 : Hp} {c c1 : Nat} {l : List Nat} (a : Fr h c h1 c1 l) : c ≤ c1 := a.1
theorem Fr.at {h h1 : Hp} {c c1 : Nat} {l : List Nat} (a : Fr h c h1 c1 l) {j : Nat} (hj : j < c) (hn : j ∉ l) : h1 j = h j := a.2 j hj hn

/-- A row of the call's own: none yet, or of this number. -/
def ownV (i : Option Nat) (es : List AV) : AV := match i with
  | none => .slice .full []
  | some id => .slice (.own id) es

def OwnH (h : Hp) (sz : Nat) (i : Option Nat) (es : List AV) : Prop := match i with
  | none => es = []
  | some id => h id = some (.arr es.length sz)

theorem appK_one {b k sz bytes : Nat} {h : Hp} {c : Nat} {d : List (Nat × List AV)} {i : Option Nat} {es : List AV} {x : AV} {o : Own} (hi : OwnH h sz i es) (hx : sizedV sz [x] = true) (hb : (2 * (es.length + 1) + 1024) * bytes ≤ 281474976710656) :
    appK b k sz bytes ⟨h, c, d⟩ (ownV i es) (.slice o [x]) = some (ownV (some (i.getD (b + k))) (es ++ [x]), ⟨upd h (i.getD (b + k)) (.arr (es.length + 1) sz), c, d⟩) := by
  cases i with
  | none =>
    have : es = [] := hi
    subst this
    simp only [ownV, appK, elemsV, appV, List.length_nil, List.length_cons, Nat.zero_add, Nat.reduceAdd] at *
    rw [if_pos ⟨hb, hx⟩]
    simp [sizedV, set_mk]
  | some id =>
    have : h id = some (.arr es.length sz) := hi
    simp only [ownV, appK, elemsV, appV, List.length_cons, List.length_nil, Nat.zero_add]
    rw [if_pos ⟨hb, hx⟩]
    simp [this, set_mk]

theorem OwnH.one {h : Hp} {sz : Nat} {es : List AV} {x : AV} {j : Nat} : OwnH (upd h j (.arr (es.length + 1) sz)) sz (some j) (es ++ [x]) := by
  simp [OwnH, upd_same]
theorem OwnH.nil {h : Hp} {sz : Nat} : OwnH h sz none [] := rfl
theorem OwnH.keep {h h' : Hp} {sz : Nat} {i : Option Nat} {es : List AV} (a : OwnH h sz i es) (hk : ∀ j, i = some j → h' j = h j) : OwnH h' sz i es := by
  cases i with
  | none => exact a
  | some j => exact (hk j rfl).trans a

theorem len_own (i : Option Nat) (es : List AV) {h : Hp} {sz : Nat} (hi : OwnH h sz i es) : lenV false (ownV i es) = some (.int .i64 es.length) := by
  cases i with
  | none => have : es = [] := hi; subst this; rfl
  | some id => rfl

/-- Bytes as elements. -/
def byteV (b : UInt8) : AV := .int .u8 b.toNat
theorem bytesV_map : ∀ l : List UInt8, bytesV (l.map byteV) = some l
  | [] => rfl
  | b :: l => by simp [bytesV, bytesV_map l, byteV, byteOfV]
theorem str_own {h0 h : Hp} {sz : Nat} (i : Option Nat) (l : List UInt8) (hi : OwnH h sz i (l.map byteV)) : strOfV h0 (ownV i (l.map byteV)) = some (.str l) := by
  cases i with
  | none => have : l.map byteV = [] := hi; simp at this; subst this; rfl
  | some id => simp [ownV, strOfV, bytesV_map]
theorem elems_own (i : Option Nat) (es : List AV) {h : Hp} {sz : Nat} (hi : OwnH h sz i es) : elemsV (ownV i es) = some es := by
  cases i with
  | none => have : es = [] := hi; subst this; rfl
  | some id => rfl

/-! ### Elements -/
theorem len_mslice (id off n cap : Nat) : lenV false (.mslice id off n cap) = some (.int .i64 n) := rfl
theorem idx_mslice (sz : Nat) (k : IntKind) (j id off n cap : Nat) : idxV sz (.int k (j : Int)) (.mslice id off n cap) = if j < n then some (.ptr id (off + j * sz)) else none := by
  simp [idxV, natOf]
def elemA (sz : Nat) : Option AV → Option AV
  | some e => if e.cells.length = sz then some (.eref e.cells) else none
  | none => none
theorem idx_slice (sz : Nat) (k : IntKind) (j : Nat) (o : Own) (es : List AV) : idxV sz (.int k (j : Int)) (.slice o es) = elemA sz es[j]? := by
  simp only [idxV, natOf_nat]; cases es[j]? <;> rfl
theorem ld_eref1 (sz : Nat) (l : List AV) (h : Hp) : ldV false sz h (.eref l) = l.head? := rfl
theorem head_drop (l : List AV) (n : Nat) : (l.drop n).head? = l[n]? := by rw [List.head?_drop]

end Go.Proofs.YtggdpckdlcngpaaDoor.Abs
