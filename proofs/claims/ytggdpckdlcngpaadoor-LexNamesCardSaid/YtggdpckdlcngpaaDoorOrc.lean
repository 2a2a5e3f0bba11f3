/- The library's functions by the shelf's contracts. -/
import Derived.Test.YtggdpckdlcngpaaDoorCode
import Derived.Test.YtggdpckdlcngpaaDoorShelf
set_option linter.unusedVariables false
set_option linter.unusedSimpArgs false
namespace Go.Proofs.YtggdpckdlcngpaaDoor
open Abs Go.RowKit

def orcContains : List AV → ASt → Option (AV × ASt)
  | [.str s, .str sub], st => if s.length < 4294967281 then some (.bool (Lib.contains s sub), st) else none
  | _, _ => none

def orcIndexByte : List AV → ASt → Option (AV × ASt)
  | [.str s, .int .u8 c], st => some (.int .i64 (Lib.indexByte s c.toNat.toUInt8), st)
  | _, _ => none

def orc (f : Nat) : Option (List AV → ASt → Option (AV × ASt)) :=
  if f = 20 then some orcContains else if f = 30 then some orcIndexByte else none

noncomputable def X : Ctx := ⟨Tryd.prog, code, orc⟩

theorem VRs.two {G : Gh} {x y : AV} {c : Array Value} (h : VRs G [x, y] c.toList) : ∃ a b, c = #[a, b] ∧ VR G x a ∧ VR G y b := by
  obtain ⟨a, c1, h1, h2, h3⟩ := h.cons_inv
  obtain ⟨b, c2, h4, h5, h6⟩ := h3.cons_inv
  have := h6.nil_inv
  subst this; subst h4
  exact ⟨a, b, by rw [← Array.toList_inj, h1], h2, h5⟩

theorem VR.str_inv' {G : Gh} {s : List UInt8} {c : Value} (h : VR G (.str s) c) : c = .string ⟨s.toArray⟩ := by cases h; rfl
theorem VR.int_inv' {G : Gh} {k : IntKind} {n : Int} {c : Value} (h : VR G (.int k n) c) : c = .int k n := by cases h; rfl

/-- A call that leaves the world alone. -/
theorem CallR.pure {P : Program} {B : Nat} {w0 : World} {f : Nat} {args : List AV} {s : ASt} {v : AV}
    (h : ∀ (G : Gh) (w : World) (cargs : Array Value), Sim B w0 G s w → Old B w0 G → VRs G args cargs.toList → ∃ cv, VR G v cv ∧ Calls P f cargs w fun e w' => e = .returned cv ∧ w' = w) : CallR P B w0 f args s v s := by
  intro G w cargs hs ho ha
  obtain ⟨cv, h1, h2⟩ := h G w cargs hs ho ha
  refine h2.mono ?_
  rintro e w' ⟨rfl, rfl⟩
  exact ⟨cv, G, rfl, h1, .refl G, hs, .refl G _ _⟩

theorem orcContains_inv {args : List AV} {st s' : ASt} {v : AV} (h : orcContains args st = some (v, s')) : ∃ a b, args = [.str a, .str b] ∧ a.length < 4294967281 ∧ v = .bool (Lib.contains a b) ∧ s' = st := by
  unfold orcContains at h
  split at h
  · split at h
    · rename_i hl
      injection h with h; injection h with h1 h2
      exact ⟨_, _, rfl, hl, h1.symm, h2.symm⟩
    · cases h
  · cases h

theorem orcIndexByte_inv {args : List AV} {st s' : ASt} {v : AV} (h : orcIndexByte args st = some (v, s')) : ∃ a c, args = [.str a, .int .u8 c] ∧ v = .int .i64 (Lib.indexByte a c.toNat.toUInt8) ∧ s' = st := by
  unfold orcIndexByte at h
  split at h
  · injection h with h; injection h with h1 h2
    exact ⟨_, _, rfl, h1.symm, h2.symm⟩
  · cases h

theorem orc_ok {w0 : World} (hsh : w0.ShapedOpen Tryd.prog) : OrcOK X w0.heap.size w0 := by
  obtain ⟨m, hm⟩ := Tryd.laysM144.s1_3 w0 hsh
  have hm : w0.cell? ⟨0, 0, none⟩ = some (.int .i64 m) := hm
  have h0 : 0 < w0.heap.size := World.block_lt_of_cell? w0 _ hm
  intro f g hg args s v s' hr
  have hg : orc f = some g := hg
  unfold orc at hg
  split at hg
  · rename_i hf; subst hf
    injection hg with hg; subst hg
    obtain ⟨a, b, rfl, hl, rfl, rfl⟩ := orcContains_inv hr
    refine ⟨⟨Tryd.f20, by kernel_rfl, by kernel_rfl, by kernel_rfl⟩, rfl, Nat.le_refl _, CallR.pure fun G w cargs hs ho ha => ?_⟩
    obtain ⟨x, y, rfl, h1, h2⟩ := VRs.two ha
    rw [VR.str_inv' h1, VR.str_inv' h2]
    refine ⟨_, .bool _, ?_⟩
    have := Tryd.strings_Contains ⟨a.toArray⟩ ⟨b.toArray⟩ m w (by simpa [ByteArray.size] using hl) (hs.comm _ _ (ho _ _ h0 hm))
    show Calls Tryd.prog 20 _ _ _
    simpa using this
  · split at hg
    · rename_i hf; subst hf
      injection hg with hg; subst hg
      obtain ⟨a, c, rfl, rfl, rfl⟩ := orcIndexByte_inv hr
      refine ⟨⟨Tryd.f30, by kernel_rfl, by kernel_rfl, by kernel_rfl⟩, rfl, Nat.le_refl _, CallR.pure fun G w cargs hs ho ha => ?_⟩
      obtain ⟨x, y, rfl, h1, h2⟩ := VRs.two ha
      rw [VR.str_inv' h1, VR.int_inv' h2]
      refine ⟨_, .int _ _, ?_⟩
      have := Tryd.strings_IndexByte ⟨a.toArray⟩ c w
      show Calls Tryd.prog 30 _ _ _
      simpa using this
    · cases hg

theorem contains_call (s sub : List UInt8) (hl : s.length < 4294967281) (st : ASt) : Does X 20 [.str s, .str sub] st fun v s' => v = .bool (Lib.contains s sub) ∧ s' = st := by
  refine call_orc (g := orcContains) rfl ?_
  simp [orcContains, hl, optK]

theorem indexByte_call (s : List UInt8) (c : UInt8) (st : ASt) : Does X 30 [.str s, .int .u8 c.toNat] st fun v s' => v = .int .i64 (Lib.indexByte s c) ∧ s' = st := by
  refine call_orc (g := orcIndexByte) rfl ?_
  simp [orcIndexByte, optK]

end Go.Proofs.YtggdpckdlcngpaaDoor
