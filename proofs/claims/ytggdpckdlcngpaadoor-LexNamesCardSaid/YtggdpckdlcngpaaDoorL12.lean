/- Bytes behind a backslash. -/
import Derived.Test.YtggdpckdlcngpaaDoorL11
set_option linter.unusedVariables false
set_option linter.unusedSimpArgs false
namespace Go.Proofs.YtggdpckdlcngpaaDoor
open Abs Go.RowKit

def plainB (c : UInt8) : Bool := decide (32 ≤ c.toNat) && decide (c.toNat ≤ 126) && decide (c ≠ 34) && decide (c ≠ 92)

theorem plainb_call (b : UInt8) (st : ASt) : Does X 54 [.int .u8 b.toNat] st fun v s' => v = .bool (plainB b) ∧ s' = st := by
  obtain ⟨h, c, d⟩ := st
  refine call_aw b54 rfl rfl rfl ?_; delta b54
  have e34 : decide ((b.toNat : Int) = 34) = decide (b = 34) := by rw [decide_eq_decide, show (34 : Int) = ((34 : UInt8).toNat : Int) from rfl, byte_eq]
  have e92 : decide ((b.toNat : Int) = 92) = decide (b = 92) := by rw [decide_eq_decide, show (92 : Int) = ((92 : UInt8).toNat : Int) from rfl, byte_eq]
  have n1 : decide (32 ≤ b.toNat) = decide ((b.toNat : Int) ≥ 32) := by rw [decide_eq_decide]; omega
  have n2 : decide (b.toNat ≤ 126) = decide ((b.toNat : Int) ≤ 126) := by rw [decide_eq_decide]; omega
  have m34 : decide (b ≠ 34) = decide (¬ (b.toNat : Int) = 34) := by rw [decide_not, decide_not, e34]
  have m92 : decide (b ≠ 92) = decide (¬ (b.toNat : Int) = 92) := by rw [decide_not, decide_not, e92]
  have hP : plainB b = (decide ((b.toNat : Int) ≥ 32) && decide ((b.toNat : Int) ≤ 126) && decide (¬ (b.toNat : Int) = 34) && decide (¬ (b.toNat : Int) = 92)) := by
    rw [plainB, n1, n2, m34, m92]
  rw [hP]
  cases h1 : decide ((b.toNat : Int) ≥ 32) <;> cases h2 : decide ((b.toNat : Int) ≤ 126) <;> cases h3 : decide (¬ (b.toNat : Int) = 34) <;> cases h4 : decide (¬ (b.toNat : Int) = 92) <;>
    simp -dsimp -implicitDefEqProofs only [go_sem, Nat.reduceAdd, Nat.reduceEqDiff, reduceIte, reduceCtorEq, Nat.reduceLeDiff, Nat.reduceLT, Nat.reduceSub, Int.reduceEq, Int.reduceLT, h1, h2, h3, h4, CondV_true, CondV_false] <;> rfl

def hexs : List UInt8 := [48, 49, 50, 51, 52, 53, 54, 55, 56, 57, 97, 98, 99, 100, 101, 102]

/-- The value of a digit of sixteen. -/
def hexV (c : UInt8) : Option Nat := if 48 ≤ c.toNat ∧ c.toNat ≤ 57 then some (c.toNat - 48) else if 97 ≤ c.toNat ∧ c.toNat ≤ 102 then some (c.toNat - 87) else none

theorem hexV_lt {c : UInt8} {n : Nat} (h : hexV c = some n) : n < 16 := by
  unfold hexV at h; split at h
  · injection h; omega
  · split at h
    · injection h; omega
    · cases h

/-- So many digits of sixteen more. -/
def hexStep : Nat → Nat → List UInt8 → Int × UInt8 × Nat
  | 0, n, _ => (0, UInt8.ofNat n, 3)
  | _ + 1, _, [] => (11, 0, 0)
  | k + 1, n, a :: r => match hexV a with
    | none => (10, 0, 0)
    | some y => hexStep k (16 * n + y) r

/-- What an escape says: an error, the byte, how many bytes it takes. -/
def escP : List UInt8 → Int × UInt8 × Nat
  | [] => (11, 0, 0)
  | c :: r => if c = 110 then (0, 10, 1) else if c = 34 then (0, 34, 1) else if c = 92 then (0, 92, 1) else if c ≠ 120 then (10, 0, 0) else hexStep 2 0 r

def escA (p : Int × UInt8 × Nat) : AV := .tuple [.int .u8 p.2.1.toNat, .int .i64 (p.2.2 : Int), .int .i64 p.1]

def zeros16 : List AV := [(.int .u8 0), (.int .u8 0), (.int .u8 0), (.int .u8 0), (.int .u8 0), (.int .u8 0), (.int .u8 0), (.int .u8 0), (.int .u8 0), (.int .u8 0), (.int .u8 0), (.int .u8 0), (.int .u8 0), (.int .u8 0), (.int .u8 0), (.int .u8 0)]
def parts16 : List (Nat × Nat × AOpd) := [(0, (1, (.val (.int .u8 48)))), (1, (1, (.val (.int .u8 49)))), (2, (1, (.val (.int .u8 50)))), (3, (1, (.val (.int .u8 51)))), (4, (1, (.val (.int .u8 52)))), (5, (1, (.val (.int .u8 53)))), (6, (1, (.val (.int .u8 54)))), (7, (1, (.val (.int .u8 55)))), (8, (1, (.val (.int .u8 56)))), (9, (1, (.val (.int .u8 57)))), (10, (1, (.val (.int .u8 97)))), (11, (1, (.val (.int .u8 98)))), (12, (1, (.val (.int .u8 99)))), (13, (1, (.val (.int .u8 100)))), (14, (1, (.val (.int .u8 101)))), (15, (1, (.val (.int .u8 102))))]

theorem fill16 (e : AEnv) : fillV (ev e) zeros16 parts16 = some (hexs.map byteV) := by kernel_rfl

theorem sixteen_call (h : Hp) (c : Nat) (d : List (Nat × List AV)) : Does X 64 [] ⟨h, c, d⟩ fun v s' => v = .agg (hexs.map byteV) ∧ ∃ h' c', s' = ⟨h', c', d⟩ ∧ Fr h c h' c' [] := by
  refine call_aw b64 rfl rfl rfl ?_
  rw [show b64 = (.seq (.region 1 [(0, zeros16)] [⟨(some 0), none, (.alloc 0 zeros16)⟩] []) (.seq (.region 0 [] [⟨(some 1), none, (.build zeros16 parts16)⟩, ⟨none, none, (.store 16 (.tmp 0) (.tmp 1))⟩] []) .ret)) from rfl]
  have hl : (hexs.map byteV).length = 16 := rfl
  have hz : zeros16.length = 16 := rfl
  have ht : (hexs.map byteV).take 16 = hexs.map byteV := rfl
  have hzd : zeros16.drop 16 = [] := rfl
  generalize hG : hexs.map byteV = G at *
  have hf := fun e => (fill16 e).trans (congrArg some hG)
  simp -dsimp -implicitDefEqProofs only [go_sem, Nat.reduceAdd, Nat.reduceEqDiff, reduceIte, reduceCtorEq, Nat.reduceLeDiff, Nat.reduceLT, Nat.reduceSub, Int.reduceEq, Int.reduceLT, OpK_alloc, preH, hf, hl, hz, ldObj, ldCells, hzd, ht]
  exact ⟨_, _, rfl, ((Fr.refl h c []).upd _ (.inr (Nat.le_refl _)) (Nat.le_succ _)).wide fun _ h => h⟩

theorem signs_call (h : Hp) (c : Nat) (d : List (Nat × List AV)) : Does X 63 [] ⟨h, c, d⟩ fun v s' => ∃ m h' c', v = .map m ∧ s' = ⟨h', c', d⟩ ∧ Fr h c h' c' [] ∧ ∃ k, h' m = some (.map [(.int .u8 110, .int .u8 10, 0), (.int .u8 34, .int .u8 34, 1), (.int .u8 92, .int .u8 92, 2)] k) := by
  refine call_aw b63 rfl rfl rfl ?_; delta b63
  simp -dsimp -implicitDefEqProofs only [go_sem, Nat.reduceAdd, Nat.reduceEqDiff, reduceIte, reduceCtorEq, Nat.reduceLeDiff, Nat.reduceLT, Nat.reduceSub, Int.reduceEq, Int.reduceLT, keyed, eqKey, eqT, updM, putE, Option.isSome_some]
  exact ⟨_, _, _, rfl, rfl, (Fr.refl h c []).upd _ (.inr (Nat.le_refl _)) (Nat.le_succ _), _, upd_same _ _ _⟩

/-- The place of a digit of sixteen. -/
def hexI (x : UInt8) : Int := match hexV x with
  | some n => (n : Int)
  | none => -1

theorem hex_all : ∀ m, m < 256 → (match hexV (UInt8.ofNat m) with | some n => decide (n < 16) && decide (hexs[n]? = some (UInt8.ofNat m)) | none => true) = true := by decide +kernel
theorem hex_one : ∀ n, n < 16 → (match hexs[n]? with | some x => decide (hexV x = some n) | none => false) = true := by decide +kernel

theorem hex_some {n : Nat} {x : UInt8} (h : hexs[n]? = some x) : hexV x = some n := by
  have hn : n < 16 := by
    rcases Nat.lt_or_ge n 16 with h' | h'
    · exact h'
    · rw [List.getElem?_eq_none (show hexs.length ≤ n from h')] at h; cases h
  have := hex_one n hn
  rw [h] at this
  simpa using this
theorem hex_none {x : UInt8} (h : ∀ n : Nat, n < 16 → hexs[n]? ≠ some x) : hexV x = none := by
  have := hex_all x.toNat (UInt8.toNat_lt x)
  rw [UInt8.ofNat_toNat] at this
  cases hx : hexV x with
  | none => rfl
  | some n =>
    rw [hx] at this
    simp at this
    exact absurd this.2 (h n this.1)

theorem cutArr_none (n sz id off : Nat) : cutArr n sz none none (.ptr id off) = some (.mslice id off n n) := by
  simp [cutArr, boundsA]

theorem index_call (id : Nat) (h : Hp) (c : Nat) (d : List (Nat × List AV)) (hid : h id = some (.cells (hexs.map byteV))) (x : UInt8) :
    Does X 65 [.mslice id 0 16 16, .int .u8 x.toNat] ⟨h, c, d⟩ fun v s' => v = .int .i64 (hexI x) ∧ s' = ⟨h, c, d⟩ := by
  refine call_aw b65 rfl rfl rfl ?_; delta b65
  simp -dsimp -implicitDefEqProofs only [go_sem, Nat.reduceAdd, Nat.reduceEqDiff, reduceIte, reduceCtorEq, Nat.reduceLeDiff, Nat.reduceLT, Nat.reduceSub, Int.reduceEq, Int.reduceLT]
  let I : Nat → AEnv → ASt → Prop := fun m e st => ∃ j : Nat, m = 16 - j ∧ j ≤ 16 ∧ (∀ i, i < j → hexs[i]? ≠ some x) ∧ e.get 0 = .mslice id 0 16 16 ∧ e.get 1 = .int .u8 x.toNat ∧ e.get 7 = .int .i64 16 ∧ e.get 8 = .int .i64 (j : Int) ∧ st = ⟨h, c, []⟩
  refine LoopK_rule I 16 ⟨0, rfl, Nat.zero_le _, fun i hi => by omega, rfl, rfl, rfl, rfl, rfl⟩ ?_
  rintro m e st ⟨j, rfl, hj, hno, g0, g1, g7, g8, rfl⟩
  simp -dsimp -implicitDefEqProofs only [go_sem, Nat.reduceAdd, Nat.reduceEqDiff, reduceIte, reduceCtorEq, Nat.reduceLeDiff, Nat.reduceLT, Nat.reduceSub, Int.reduceEq, Int.reduceLT, g0, g1, g7, g8]
  refine CondV_split (fun hc => ?_) fun hc => ?_
  · have hj' : j < 16 := by simp at hc; omega
    obtain ⟨y, hg⟩ : ∃ y, hexs[j]? = some y := ⟨_, List.getElem?_eq_getElem (show j < hexs.length from hj')⟩
    simp -dsimp -implicitDefEqProofs only [go_sem, Nat.reduceAdd, Nat.reduceEqDiff, reduceIte, reduceCtorEq, Nat.reduceLeDiff, Nat.reduceLT, Nat.reduceSub, Int.reduceEq, Int.reduceLT, g0, g1, g7, g8, hj', hid, ldCells, hg, byteV]
    refine CondV_split (fun hq => ?_) fun hq => ?_
    · have hx : x = y := by simpa [byte_eq] using hq
      have hI : hexI x = (j : Int) := by rw [hexI, hex_some (n := j) (by rw [hg, hx])]
      simp -dsimp -implicitDefEqProofs only [go_sem, Nat.reduceAdd, Nat.reduceEqDiff, reduceIte, reduceCtorEq, Nat.reduceLeDiff, Nat.reduceLT, Nat.reduceSub, Int.reduceEq, Int.reduceLT, g0, g1, g7, g8, hI]
    · have hx : x ≠ y := by simpa [byte_eq] using hq
      simp -dsimp -implicitDefEqProofs only [go_sem, Nat.reduceAdd, Nat.reduceEqDiff, reduceIte, reduceCtorEq, Nat.reduceLeDiff, Nat.reduceLT, Nat.reduceSub, Int.reduceEq, Int.reduceLT, g0, g1, g7, g8]
      refine Again.of (16 - (j + 1)) (by omega) ⟨j + 1, rfl, by omega, fun i hi => ?_, g0, g1, g7, ?_, rfl⟩
      · rcases Nat.lt_or_ge i j with h' | h'
        · exact hno i h'
        · obtain rfl : i = j := by omega
          rw [hg]; simpa using fun e => hx e.symm
      · show AV.int .i64 (IntKind.wrap .i64 ((j : Int) + 1)) = _
        rw [wrap_i64 (by omega) (by omega)]; rfl
  · have hj' : j = 16 := by simp at hc; omega
    have hI : hexI x = -1 := by rw [hexI, hex_none (by rw [← hj']; exact hno)]
    simp -dsimp -implicitDefEqProofs only [go_sem, Nat.reduceAdd, Nat.reduceEqDiff, reduceIte, reduceCtorEq, Nat.reduceLeDiff, Nat.reduceLT, Nat.reduceSub, Int.reduceEq, Int.reduceLT, g0, g1, g7, g8, hI]

theorem escape_call (s : List UInt8) (h : Hp) (c : Nat) (d : List (Nat × List AV)) : Does X 53 [.str s] ⟨h, c, d⟩ fun v s' => v = escA (escP s) ∧ ∃ h' c', s' = ⟨h', c', d⟩ ∧ Fr h c h' c' [] := by
  refine call_aw b53 rfl rfl rfl ?_; delta b53
  cases s with
  | nil =>
    simp -dsimp -implicitDefEqProofs only [go_sem, Nat.reduceAdd, Nat.reduceEqDiff, reduceIte, reduceCtorEq, Nat.reduceLeDiff, Nat.reduceLT, Nat.reduceSub, Int.reduceEq, Int.reduceLT]
    exact ⟨rfl, _, _, rfl, Fr.refl _ _ _⟩
  | cons x r =>
    have e0 : decide ((x :: r) = []) = false := by simp
    have hs0 : strAt (.int .i64 0) (.str (x :: r)) = some (.int .u8 x.toNat) := rfl
    simp -dsimp -implicitDefEqProofs only [go_sem, Nat.reduceAdd, Nat.reduceEqDiff, reduceIte, reduceCtorEq, Nat.reduceLeDiff, Nat.reduceLT, Nat.reduceSub, Int.reduceEq, Int.reduceLT, e0]
    refine DoesK_of (signs_call _ _ _) ?_
    rintro v s' ⟨m, h1, c1, rfl, rfl, f1, k, hm⟩
    have q120 : decide (¬ (x.toNat : Int) = 120) = decide (x ≠ 120) := by rw [decide_eq_decide, show (120 : Int) = ((120 : UInt8).toNat : Int) from rfl, byte_eq]
    have look : ∀ (a : Int) (b : Bool), (x = 110 ∧ a = 10 ∧ b = true) ∨ (x = 34 ∧ a = 34 ∧ b = true) ∨ (x = 92 ∧ a = 92 ∧ b = true) ∨ (x ≠ 110 ∧ x ≠ 34 ∧ x ≠ 92 ∧ a = 0 ∧ b = false) →
        keyed (.one .int) (.int .u8 x.toNat) (lookM (.one .int) (.int .u8 0) true h1 (.int .u8 x.toNat) (.map m)) = some (.tuple [.int .u8 a, .bool b]) := by
      intro a b hab
      have q110 : decide ((x.toNat : Int) = 110) = decide (x = 110) := by rw [decide_eq_decide, show (110 : Int) = ((110 : UInt8).toNat : Int) from rfl, byte_eq]
      have q34 : decide ((x.toNat : Int) = 34) = decide (x = 34) := by rw [decide_eq_decide, show (34 : Int) = ((34 : UInt8).toNat : Int) from rfl, byte_eq]
      have q92 : decide ((x.toNat : Int) = 92) = decide (x = 92) := by rw [decide_eq_decide, show (92 : Int) = ((92 : UInt8).toNat : Int) from rfl, byte_eq]
      simp only [lookM, hm, lookObj, lookV, findE, keyed, eqKey, eqT, Option.isSome_some, okPair, q110, q34, q92, if_true]
      rcases hab with ⟨rfl, rfl, rfl⟩ | ⟨rfl, rfl, rfl⟩ | ⟨rfl, rfl, rfl⟩ | ⟨h1, h2, h3, rfl, rfl⟩
      · rfl
      · rfl
      · rfl
      · simp [h1, h2, h3]
    by_cases h110 : x = 110
    · simp -dsimp -implicitDefEqProofs only [go_sem, Nat.reduceAdd, Nat.reduceEqDiff, reduceIte, reduceCtorEq, Nat.reduceLeDiff, Nat.reduceLT, Nat.reduceSub, Int.reduceEq, Int.reduceLT, hs0, look 10 true (.inl ⟨h110, rfl, rfl⟩)]
      simp only [escP, if_pos h110]
      exact ⟨rfl, _, _, rfl, f1⟩
    · by_cases h34 : x = 34
      · simp -dsimp -implicitDefEqProofs only [go_sem, Nat.reduceAdd, Nat.reduceEqDiff, reduceIte, reduceCtorEq, Nat.reduceLeDiff, Nat.reduceLT, Nat.reduceSub, Int.reduceEq, Int.reduceLT, hs0, look 34 true (.inr (.inl ⟨h34, rfl, rfl⟩))]
        simp only [escP, if_neg h110, if_pos h34]
        exact ⟨rfl, _, _, rfl, f1⟩
      · by_cases h92 : x = 92
        · simp -dsimp -implicitDefEqProofs only [go_sem, Nat.reduceAdd, Nat.reduceEqDiff, reduceIte, reduceCtorEq, Nat.reduceLeDiff, Nat.reduceLT, Nat.reduceSub, Int.reduceEq, Int.reduceLT, hs0, look 92 true (.inr (.inr (.inl ⟨h92, rfl, rfl⟩)))]
          simp only [escP, if_neg h110, if_neg h34, if_pos h92]
          exact ⟨rfl, _, _, rfl, f1⟩
        · simp -dsimp -implicitDefEqProofs only [go_sem, Nat.reduceAdd, Nat.reduceEqDiff, reduceIte, reduceCtorEq, Nat.reduceLeDiff, Nat.reduceLT, Nat.reduceSub, Int.reduceEq, Int.reduceLT, hs0, look 0 false (.inr (.inr (.inr ⟨h110, h34, h92, rfl, rfl⟩))), q120]
          refine CondV_split (fun hq => ?_) fun hq => ?_
          · have hq' : x ≠ 120 := by simpa using hq
            simp -dsimp -implicitDefEqProofs only [go_sem, Nat.reduceAdd, Nat.reduceEqDiff, reduceIte, reduceCtorEq, Nat.reduceLeDiff, Nat.reduceLT, Nat.reduceSub, Int.reduceEq, Int.reduceLT]
            simp only [escP, if_neg h110, if_neg h34, if_neg h92, if_pos hq']
            exact ⟨rfl, _, _, rfl, f1⟩
          · have hq' : x = 120 := by simpa using hq
            have hE : escP (x :: r) = hexStep 2 0 r := by rw [escP, if_neg h110, if_neg h34, if_neg h92, if_neg (by simp [hq'])]
            rw [hE]
            simp -dsimp -implicitDefEqProofs only [go_sem, Nat.reduceAdd, Nat.reduceEqDiff, reduceIte, reduceCtorEq, Nat.reduceLeDiff, Nat.reduceLT, Nat.reduceSub, Int.reduceEq, Int.reduceLT, preH]
            refine DoesK_of (sixteen_call _ _ _) ?_
            rintro v s' ⟨rfl, h2, c2, rfl, f2⟩
            have hz := f2.at (Nat.lt_succ_self c1) (by simp)
            rw [upd_same] at hz
            have hl : (hexs.map byteV).length = 16 := rfl
            obtain ⟨G, hG⟩ : ∃ G, G = hexs.map byteV := ⟨_, rfl⟩
            rw [← hG] at hl ⊢
            simp -dsimp -implicitDefEqProofs only [go_sem, Nat.reduceAdd, Nat.reduceEqDiff, reduceIte, reduceCtorEq, Nat.reduceLeDiff, Nat.reduceLT, Nat.reduceSub, Int.reduceEq, Int.reduceLT, OpK_alloc, hz, hl]
            have hlen : ((x :: r).length : Int) = ((r.length + 1 : Nat) : Int) := rfl
            have fin : Fr h c (upd h2 c1 (.cells G)) c2 [] := (((f1.upd _ (.inr f1.le) (Nat.le_succ _)).trans f2 (by simp)).upd _ (.inr f1.le) (Nat.le_refl _))
            generalize hH : upd h2 c1 (.cells G) = H at fin ⊢
            have hid : H c1 = some (.cells (hexs.map byteV)) := by rw [← hH, upd_same, hG]
            let I : Nat → AEnv → ASt → Prop := fun m e st => ∃ j n : Nat, m = 3 - j ∧ 1 ≤ j ∧ j ≤ 3 ∧ n < 16 ^ (j - 1) ∧ hexStep (3 - j) n ((x :: r).drop j) = hexStep 2 0 r ∧ e.get 0 = .str (x :: r) ∧ e.get 7 = .ptr c1 0 ∧ e.get 8 = .int .i64 (n : Int) ∧ e.get 9 = .int .i64 (j : Int) ∧ st = ⟨H, c2, []⟩
            refine LoopK_rule I 2 ⟨1, 0, rfl, Nat.le_refl _, by decide, by decide, rfl, rfl, rfl, rfl, rfl, rfl⟩ ?_
            rintro m e st ⟨j, n, rfl, hj1, hj3, hn, hst, g0, g7, g8, g9, rfl⟩
            simp -dsimp -implicitDefEqProofs only [go_sem, Nat.reduceAdd, Nat.reduceEqDiff, reduceIte, reduceCtorEq, Nat.reduceLeDiff, Nat.reduceLT, Nat.reduceSub, Int.reduceEq, Int.reduceLT, g0, g7, g8, g9]
            refine CondV_split (fun hc => ?_) fun hc => ?_
            · have hj2 : j ≤ 2 := by simp at hc; omega
              simp -dsimp -implicitDefEqProofs only [go_sem, Nat.reduceAdd, Nat.reduceEqDiff, reduceIte, reduceCtorEq, Nat.reduceLeDiff, Nat.reduceLT, Nat.reduceSub, Int.reduceEq, Int.reduceLT, g0, g7, g8, g9]
              refine CondV_split (fun hc2 => ?_) fun hc2 => ?_
              · have hdr : (x :: r).drop j = [] := by
                  rw [List.drop_eq_nil_iff]
                  simp at hc2
                  simp; omega
                have h3j : 3 - j = (2 - j) + 1 := by omega
                rw [hdr, h3j, hexStep] at hst
                simp -dsimp -implicitDefEqProofs only [go_sem, Nat.reduceAdd, Nat.reduceEqDiff, reduceIte, reduceCtorEq, Nat.reduceLeDiff, Nat.reduceLT, Nat.reduceSub, Int.reduceEq, Int.reduceLT, g0, g7, g8, g9]
                rw [← hst]
                exact ⟨rfl, _, _, rfl, fin⟩
              · have hjl : j < (x :: r).length := by
                  simp at hc2
                  simp; omega
                have hg := List.getElem?_eq_getElem hjl
                have hdr : (x :: r).drop j = (x :: r)[j] :: (x :: r).drop (j + 1) := List.drop_eq_getElem_cons hjl
                have h3j : 3 - j = (2 - j) + 1 := by omega
                generalize (x :: r)[j] = y at hg hdr
                simp -dsimp -implicitDefEqProofs only [go_sem, Nat.reduceAdd, Nat.reduceEqDiff, reduceIte, reduceCtorEq, Nat.reduceLeDiff, Nat.reduceLT, Nat.reduceSub, Int.reduceEq, Int.reduceLT, g0, g7, g8, g9, strAt_nat, hg, cutArr_none]
                refine DoesK_of (index_call c1 H c2 [] hid y) ?_
                rintro v s' ⟨rfl, rfl⟩
                rw [hdr, h3j, hexStep] at hst
                cases hy : hexV y with
                | none =>
                  rw [hy] at hst
                  have hI : hexI y = -1 := by rw [hexI, hy]
                  simp -dsimp -implicitDefEqProofs only [go_sem, Nat.reduceAdd, Nat.reduceEqDiff, reduceIte, reduceCtorEq, Nat.reduceLeDiff, Nat.reduceLT, Nat.reduceSub, Int.reduceEq, Int.reduceLT, g0, g7, g8, g9, hI]
                  rw [← hst]
                  exact ⟨rfl, _, _, rfl, fin⟩
                | some z =>
                  rw [hy] at hst
                  have hz16 := hexV_lt hy
                  have hn16 : n < 16 := by
                    rcases (show j = 1 ∨ j = 2 by omega) with rfl | rfl
                    · simp at hn; omega
                    · simpa using hn
                  have hI : hexI y = (z : Int) := by rw [hexI, hy]
                  have hI2 : decide ((z : Int) < 0) = false := by simp
                  have w1 : IntKind.wrap .i64 (16 * (n : Int)) = ((16 * n : Nat) : Int) := by rw [wrap_i64 (by omega) (by omega)]; omega
                  have w2 : IntKind.wrap .i64 (((16 * n : Nat) : Int) + (z : Int)) = ((16 * n + z : Nat) : Int) := by rw [wrap_i64 (by omega) (by omega)]; omega
                  have w3 : IntKind.wrap .i64 ((j : Int) + 1) = ((j + 1 : Nat) : Int) := by rw [wrap_i64 (by omega) (by omega)]; omega
                  simp -dsimp -implicitDefEqProofs only [go_sem, Nat.reduceAdd, Nat.reduceEqDiff, reduceIte, reduceCtorEq, Nat.reduceLeDiff, Nat.reduceLT, Nat.reduceSub, Int.reduceEq, Int.reduceLT, g0, g7, g8, g9, hI, hI2, w1, w2, w3]
                  refine Again.of (3 - (j + 1)) (by omega) ⟨j + 1, 16 * n + z, rfl, by omega, by omega, ?_, ?_, g0, g7, rfl, rfl, rfl⟩
                  · rcases (show j = 1 ∨ j = 2 by omega) with rfl | rfl
                    · simp at hn; subst hn; simpa using hz16
                    · simp at hn ⊢; omega
                  · rw [← hst, show 3 - (j + 1) = 2 - j by omega]
            · have hj4 : j = 3 := by simp at hc; omega
              subst hj4
              have hw : IntKind.wrap .u8 (n : Int) = ((UInt8.ofNat n).toNat : Int) := by
                have : n < 256 := by simpa using hn
                rw [wrap_u8 (by omega) (by omega)]; simp [Nat.mod_eq_of_lt this]
              simp -dsimp -implicitDefEqProofs only [go_sem, Nat.reduceAdd, Nat.reduceEqDiff, reduceIte, reduceCtorEq, Nat.reduceLeDiff, Nat.reduceLT, Nat.reduceSub, Int.reduceEq, Int.reduceLT, g0, g7, g8, g9, hw]
              rw [← hst]
              exact ⟨rfl, _, _, rfl, fin⟩

end Go.Proofs.YtggdpckdlcngpaaDoor
