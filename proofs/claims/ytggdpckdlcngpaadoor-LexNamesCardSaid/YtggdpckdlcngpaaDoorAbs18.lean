/- Words and rules by which runs of the abstract machine are reckoned. -/
import Derived.Test.YtggdpckdlcngpaaDoorAbs17
set_option linter.unusedVariables false
set_option linter.unusedSimpArgs false
namespace Go.Proofs.YtggdpckdlcngpaaDoor.Abs
open Go.RowKit

abbrev Hp := Nat → Option AObj

def upd (h : Hp) (i : Nat) (o : AObj) : Hp := fun j => if j = i then some o else h j

theorem upd_same (h : Hp) (i : Nat) (o : AObj) : upd h i o i = some o := by simp [upd]
theorem upd_ne (h : Hp) {i j : Nat} (o : AObj) (hn : j ≠ i) : upd h i o j = h j := by simp [upd, hn]

theorem upd_upd (h : Hp) (i : Nat) (a b : AObj) : upd (upd h i a) i b = upd h i b := by
  funext j; simp only [upd]; split <;> rfl
theorem upd_self (h : Hp) (i : Nat) (a : AObj) (hi : h i = some a) : upd h i a = h := by
  funext j; simp only [upd]; split
  · rename_i e; rw [e, hi]
  · rfl
theorem upd_comm (h : Hp) {i j : Nat} (a b : AObj) (hn : i ≠ j) : upd (upd h i a) j b = upd (upd h j b) i a := by
  funext k; simp only [upd]; split
  · rename_i e; subst e; rw [if_neg (Ne.symm hn)]
  · rfl

theorem set_mk (h : Hp) (c : Nat) (d : List (Nat × List AV)) (i : Nat) (o : AObj) : ASt.set ⟨h, c, d⟩ i o = ⟨upd h i o, c, d⟩ := rfl

def preH (b : Nat) : List (Nat × List AV) → Hp → Hp
  | [], h => h
  | (k, z) :: ps, h => preH b ps (upd h (b + k) (.cells z))

theorem preSet_mk (b : Nat) : ∀ (pre : List (Nat × List AV)) (h : Hp) (c : Nat) (d : List (Nat × List AV)), preSet b pre ⟨h, c, d⟩ = ⟨preH b pre h, c, d⟩
  | [], _, _, _ => rfl
  | (k, z) :: ps, h, c, d => preSet_mk b ps (upd h (b + k) (.cells z)) c d

theorem enter_mk (h : Hp) (c : Nat) (d : List (Nat × List AV)) (na : Nat) (pre : List (Nat × List AV)) : ASt.enter ⟨h, c, d⟩ na pre = ⟨preH c pre h, c + na, d⟩ := preSet_mk c pre h (c + na) d

theorem enter_zero (h : Hp) (c : Nat) (d : List (Nat × List AV)) : ASt.enter ⟨h, c, d⟩ 0 [] = ⟨h, c, d⟩ := rfl

theorem ev_tmp (e : AEnv) (t : Nat) : ev e (.tmp t) = e.get t := rfl
theorem ev_val (e : AEnv) (v : AV) : ev e (.val v) = v := rfl
theorem get_cons (e : AEnv) (d t : Nat) (v : AV) : AEnv.get ((d, v) :: e) t = if d = t then v else e.get t := rfl
theorem get_here (e : AEnv) (d : Nat) (v : AV) : AEnv.get ((d, v) :: e) d = v := by simp [AEnv.get]
theorem put_some (e : AEnv) (d : Nat) (v : AV) : AEnv.put e (some d) v = (d, v) :: e := rfl
theorem put_none (e : AEnv) (v : AV) : AEnv.put e none v = e := rfl

theorem stable_nil (l : List Log) : stable [] l = True := rfl
theorem condV_split {b : Bool} {p q : Prop} (h : b = true → p) (h' : b = false → q) : condV (.bool b) p q := by
  cases b with
  | true => exact h rfl
  | false => exact h' rfl

theorem wrap_i64 {n : Int} (h : -9223372036854775808 ≤ n) (h' : n ≤ 9223372036854775807) : IntKind.wrap .i64 n = n := by
  simp only [IntKind.wrap, IntKind.signed, IntKind.bits]
  first
    | (split <;> omega)
    | (simp; omega)
    | omega

theorem maskOf_nil : maskOf [] = [] := rfl
theorem opsK_nil (X : Ctx) (b i : Nat) (m : List Nat) (lg : List Log) (e : AEnv) (s : ASt) (K : AEnv → ASt → List Log → Prop) : opsK X b m [] i lg e s K = K e s lg := rfl
theorem opsK_cons0 (X : Ctx) (b i : Nat) (o : AOper) (os : List AOper) (lg : List Log) (e : AEnv) (s : ASt) (K : AEnv → ASt → List Log → Prop) : opsK X b [] (o :: os) i lg e s K =
    guardK e o.guard (opK X b o.op e s fun v s' => opsK X b [] os 0 lg (e.put o.dst v) s' K) (opsK X b [] os 0 lg (e.put o.dst udf) s K) := by
  have key : ∀ (os : List AOper) (i j : Nat) (lg : List Log) (e : AEnv) (s : ASt), opsK X b [] os i lg e s K = opsK X b [] os j lg e s K := by
    intro os
    induction os with
    | nil => intros; rfl
    | cons o os ih =>
      intro i j lg e s
      simp only [opsK, List.contains_nil, Bool.false_eq_true, if_false]
      rw [ih (i + 1) (j + 1)]
      congr 2
      funext v s'
      exact ih _ _ _ _ _
  simp only [opsK, List.contains_nil, Bool.false_eq_true, if_false]
  rw [key os (i + 1) 0]
  congr 2
  funext v s'
  exact key _ _ _ _ _ _

theorem opK_call (X : Ctx) (b : Nat) (f : AOpd) (args : List AOpd) (e : AEnv) (s : ASt) (K : AV → ASt → Prop) : opK X b (.call f args) e s K = callK X s K (callV (ev e) f args) := rfl
theorem callV_val (ρ : AOpd → AV) (f : AOpd) (args : List AOpd) (g : Nat) (a c : List AV) (h : ρ f = .func g a c) : callV ρ f args = some (g, a ++ args.map ρ ++ c) := by simp [callV, h]

/-! ### Whole numbers, texts -/
section
variable (k : IntKind) (a b : Int) (s t : List UInt8)
theorem bin_add : binV .add (.int k a) (.int k b) = some (.int k (k.wrap (a + b))) := by simp [binV, intV]
theorem bin_sub : binV .sub (.int k a) (.int k b) = some (.int k (k.wrap (a - b))) := by simp [binV, intV]
theorem bin_mul : binV .mul (.int k a) (.int k b) = some (.int k (k.wrap (a * b))) := by simp [binV, intV]
theorem bin_quo : binV .quo (.int k a) (.int k b) = if b = 0 then none else some (.int k (k.wrap (a.tdiv b))) := by simp [binV, intV]
theorem bin_rem : binV .rem (.int k a) (.int k b) = if b = 0 then none else some (.int k (a.tmod b)) := by simp [binV, intV]
theorem bin_eql : binV .eql (.int k a) (.int k b) = some (.bool (decide (a = b))) := by simp [binV, intV]
theorem bin_neq : binV .neq (.int k a) (.int k b) = some (.bool (decide (a ≠ b))) := by simp [binV, intV]
theorem bin_lss : binV .lss (.int k a) (.int k b) = some (.bool (decide (a < b))) := by simp [binV, intV]
theorem bin_leq : binV .leq (.int k a) (.int k b) = some (.bool (decide (a ≤ b))) := by simp [binV, intV]
theorem bin_gtr : binV .gtr (.int k a) (.int k b) = some (.bool (decide (a > b))) := by simp [binV, intV]
theorem bin_geq : binV .geq (.int k a) (.int k b) = some (.bool (decide (a ≥ b))) := by simp [binV, intV]
theorem bin_cat : binV .add (.str s) (.str t) = if s.length + t.length ≤ 9223372036854775807 then some (.str (s ++ t)) else none := rfl
theorem bin_seq : binV .eql (.str s) (.str t) = some (.bool (decide (s = t))) := rfl
theorem bin_sne : binV .neq (.str s) (.str t) = some (.bool (decide (s ≠ t))) := rfl
theorem bin_sls : binV .lss (.str s) (.str t) = some (.bool (Op.bytesLess s t)) := rfl
theorem un_not (x : Bool) : unV .not (.bool x) = some (.bool (!x)) := rfl
theorem un_neg : unV .neg (.int k a) = some (.int k (k.wrap (0 - a))) := rfl
theorem len_str : lenV true (.str s) = some (.int .i64 s.length) := rfl
theorem len_slice (o : Own) (es : List AV) : lenV false (.slice o es) = some (.int .i64 es.length) := rfl
theorem wanted_bool (x w : Bool) (e : AEnv) (t : Nat) (h : e.get t = .bool x) : wanted e (some (t, w)) = (x == w) := by simp [wanted, h]
theorem natOf_int (h : 0 ≤ a) : natOf (.int k a) = some a.toNat := by simp [natOf, h]
theorem strAt_nat (n : Nat) : strAt (.int k (n : Int)) (.str s) = (s[n]?).map fun b => .int .u8 b.toNat := by simp [strAt, natOf]
theorem strAt_int (h : 0 ≤ a) : strAt (.int k a) (.str s) = (s[a.toNat]?).map fun b => .int .u8 b.toNat := by simp [strAt, natOf, h]
theorem byte_eq (x y : UInt8) : ((x.toNat : Int) = (y.toNat : Int)) = (x = y) := by
  apply propext
  constructor
  · intro h; exact UInt8.toNat_inj.1 (by omega)
  · intro h; rw [h]
theorem natOf_nat (n : Nat) : natOf (.int k (n : Int)) = some n := by simp [natOf]
end


/-! ### Veiled twins: what stands behind is left alone -/

universe u
inductive Veil {α : Sort u} (a : α) : Type
  | mk

def OptK {α : Type} (x : Option α) (K : α → Prop) (_ : Veil K) : Prop := optK x K
def CondV (v : AV) (p q : Prop) (_ : Veil p) (_ : Veil q) : Prop := condV v p q
def DoesK (X : Ctx) (f : Nat) (l : List AV) (s : ASt) (K : AV → ASt → Prop) (_ : Veil K) : Prop := Does X f l s K
def CallK (X : Ctx) (s : ASt) (K : AV → ASt → Prop) (r : Option (Nat × List AV)) (_ : Veil K) : Prop := callK X s K r
def OpK (X : Ctx) (b : Nat) (o : AOp) (e : AEnv) (s : ASt) (K : AV → ASt → Prop) (_ : Veil K) : Prop := opK X b o e s K
def OpsK (X : Ctx) (b : Nat) (m : List Nat) (ops : List AOper) (i : Nat) (lg : List Log) (e : AEnv) (s : ASt) (K : AEnv → ASt → List Log → Prop) (_ : Veil ops) (_ : Veil K) : Prop := opsK X b m ops i lg e s K
def Aw (X : Ctx) (c : ACode) (K : AExit → AEnv → ASt → Prop) (_ : Veil c) (_ : Veil K) (e : AEnv) (s : ASt) : Prop := aw X c K e s
def LoopK (X : Ctx) (c : ACode) (K : AExit → AEnv → ASt → Prop) (_ : Veil c) (_ : Veil K) (e : AEnv) (s : ASt) : Prop := Runs X (.loop c) e s K
def ThenK (N : AEnv → ASt → Prop) (K : AExit → AEnv → ASt → Prop) (_ : Veil N) (_ : Veil K) : AExit → AEnv → ASt → Prop := thenK N K
def BlockK (id : Nat) (K : AExit → AEnv → ASt → Prop) (_ : Veil K) : AExit → AEnv → ASt → Prop := blockK id K
def RetK (rs : List ARes) (old : List (Nat × List AV)) (K : AV → ASt → Prop) (_ : Veil K) : AExit → AEnv → ASt → Prop := retK rs old K

section
variable {X : Ctx} {K : AExit → AEnv → ASt → Prop} {vK : Veil K} {e : AEnv} {s : ASt}

theorem Aw_skip {v : Veil ACode.skip} : Aw X .skip K v vK e s = K .normal e s := rfl
theorem Aw_ret {v : Veil ACode.ret} : Aw X .ret K v vK e s = K .ret e s := rfl
theorem Aw_exit {id : Nat} {v : Veil (ACode.exit id)} : Aw X (.exit id) K v vK e s = K (.exit id) e s := rfl
theorem Aw_seq {a b : ACode} {v : Veil (ACode.seq a b)} : Aw X (.seq a b) K v vK e s = Aw X a (ThenK (Aw X b K .mk .mk) K .mk .mk) .mk .mk e s := rfl
theorem Aw_cond {x : AOpd} {a b : ACode} {v : Veil (ACode.cond x a b)} : Aw X (.cond x a b) K v vK e s = CondV (ev e x) (Aw X a K .mk .mk e s) (Aw X b K .mk .mk e s) .mk .mk := rfl
theorem Aw_block {id : Nat} {b : ACode} {v : Veil (ACode.block id b)} : Aw X (.block id b) K v vK e s = Aw X b (BlockK id K .mk) .mk .mk e s := rfl
theorem Aw_scope {b : ACode} {v : Veil (ACode.scope b)} : Aw X (.scope b) K v vK e s = Aw X b K .mk .mk e s := rfl
theorem Aw_loop {b : ACode} {v : Veil (ACode.loop b)} : Aw X (.loop b) K v vK e s = LoopK X b K .mk .mk e s := rfl
theorem Aw_region0 {h : Hp} {c na : Nat} {d : List (Nat × List AV)} {pre : List (Nat × List AV)} {ops : List AOper} {v : Veil (ACode.region na pre ops [])} : Aw X (.region na pre ops []) K v vK e ⟨h, c, d⟩ =
    OpsK X c [] ops 0 [] e (ASt.enter ⟨h, c, d⟩ na pre) (fun e' s' _ => K .normal e' s') .mk .mk := by
  show opsK X c (maskOf []) ops 0 [] e _ (fun e' s' lg => stable [] lg ∧ K .normal e' s') = opsK X c [] ops 0 [] e _ _
  simp only [maskOf_nil, stable_nil, true_and]
theorem Aw_region1 {h : Hp} {c na : Nat} {d : List (Nat × List AV)} {pre : List (Nat × List AV)} {ops : List AOper} {p : Nat × Nat} {ps : List (Nat × Nat)} {v : Veil (ACode.region na pre ops (p :: ps))} : Aw X (.region na pre ops (p :: ps)) K v vK e ⟨h, c, d⟩ =
    OpsK X c (maskOf (p :: ps)) ops 0 [] e (ASt.enter ⟨h, c, d⟩ na pre) (fun e' s' lg => Stable (p :: ps) lg ∧ K .normal e' s') .mk .mk := rfl

theorem ThenK_normal {N : AEnv → ASt → Prop} {vN : Veil N} : ThenK N K vN vK .normal e s = N e s := rfl
theorem ThenK_exit {N : AEnv → ASt → Prop} {vN : Veil N} {id : Nat} : ThenK N K vN vK (.exit id) e s = K (.exit id) e s := rfl
theorem ThenK_ret {N : AEnv → ASt → Prop} {vN : Veil N} : ThenK N K vN vK .ret e s = K .ret e s := rfl
theorem BlockK_normal {i : Nat} : BlockK i K vK .normal e s = K .normal e s := rfl
theorem BlockK_exit {i j : Nat} : BlockK i K vK (.exit j) e s = if j = i then K .normal e s else K (.exit j) e s := rfl
theorem BlockK_ret {i : Nat} : BlockK i K vK .ret e s = K .ret e s := rfl
theorem RetK_ret {rs : List ARes} {old : List (Nat × List AV)} {K : AV → ASt → Prop} {vK : Veil K} {h : Hp} {c : Nat} : RetK rs old K vK .ret e ⟨h, c, []⟩ = OptK (resV e ⟨h, c, []⟩ rs) (fun l => K (oneOf l) ⟨h, c, old⟩) .mk := by simp [RetK, retK, OptK]
theorem RetK_normal {rs : List ARes} {old : List (Nat × List AV)} {K : AV → ASt → Prop} {vK : Veil K} {h : Hp} {c : Nat} : RetK rs old K vK .normal e ⟨h, c, []⟩ = OptK (resV e ⟨h, c, []⟩ rs) (fun l => K (oneOf l) ⟨h, c, old⟩) .mk := by simp [RetK, retK, OptK]

theorem OptK_some {α : Type} {a : α} {K : α → Prop} {vK : Veil K} : OptK (some a) K vK = K a := rfl
theorem CondV_true {p q : Prop} {vp : Veil p} {vq : Veil q} : CondV (.bool true) p q vp vq = p := rfl
theorem CondV_false {p q : Prop} {vp : Veil p} {vq : Veil q} : CondV (.bool false) p q vp vq = q := rfl
theorem CallK_some {K : AV → ASt → Prop} {vK : Veil K} {g : Nat} {l : List AV} : CallK X s K (some (g, l)) vK = DoesK X g l s K .mk := rfl
end

theorem CondV_split {b : Bool} {p q : Prop} {vp : Veil p} {vq : Veil q} (h : b = true → p) (h' : b = false → q) : CondV (.bool b) p q vp vq := by
  cases b with
  | true => exact h rfl
  | false => exact h' rfl

theorem DoesK_of {X : Ctx} {f : Nat} {l : List AV} {s : ASt} {K K' : AV → ASt → Prop} {vK : Veil K} (h : Does X f l s K') (hk : ∀ v s', K' v s' → K v s') : DoesK X f l s K vK := Does.mono h hk

theorem call_aw {X : Ctx} {f : Nat} {l : List AV} {h : Hp} {c : Nat} {d : List (Nat × List AV)} {K : AV → ASt → Prop} {nt : Nat} {rs : List ARes} (body : ACode) (hf : X.code f = some ⟨nt, rs, body⟩) (ho : X.orc f = none) (hn : Nat.ble l.length nt = true)
    (hw : Aw X body (RetK rs d K .mk) .mk .mk (argEnv 0 l) ⟨h, c, []⟩) : Does X f l ⟨h, c, d⟩ K := call_code _ hf ho (Nat.le_of_ble_eq_true hn) hw

/-- The loop's invariant holds again, and its measure is less. -/
def Again (I : Nat → AEnv → ASt → Prop) (_ : Veil I) (n : Nat) (e : AEnv) (s : ASt) : Prop := ∃ m, m < n ∧ I m e s
theorem Again.of {I : Nat → AEnv → ASt → Prop} {v : Veil I} {n : Nat} {e : AEnv} {s : ASt} (m : Nat) (h : m < n) (hI : I m e s) : Again I v n e s := ⟨m, h, hI⟩

theorem LoopK_rule {X : Ctx} {b : ACode} {K : AExit → AEnv → ASt → Prop} {v : Veil b} {vK : Veil K} (I : Nat → AEnv → ASt → Prop) (n : Nat) {e : AEnv} {s : ASt} (h0 : I n e s)
    (h : ∀ n e s, I n e s → Aw X b (ThenK (Again I .mk n) K .mk .mk) .mk .mk e s) : LoopK X b K v vK e s := loop_rule I h n e s h0

theorem LoopK_step {X : Ctx} {b : ACode} {K : AExit → AEnv → ASt → Prop} {v : Veil b} {vK : Veil K} {e : AEnv} {s : ASt} (h : Aw X b (ThenK (LoopK X b K .mk .mk) K .mk .mk) .mk .mk e s) : LoopK X b K v vK e s := loop_step h

/-! ### Cuts -/
def boundsA (len cap : Nat) (lo hi : Option AV) : Option (Nat × Nat) :=
  match (match hi with | some x => natOf x | none => some len) with
  | some h => if h ≤ cap then
      match (match lo with | some x => natOf x | none => some 0) with
      | some l => if l ≤ h then some (l, h) else none
      | none => none
    else none
  | none => none
def cutStr (lo hi : Option AV) : AV → Option AV
  | .str s => (boundsA s.length s.length lo hi).map fun (l, h) => .str ((s.take h).drop l)
  | _ => none
def cutSl (sz : Nat) (lo hi : Option AV) : AV → Option AV
  | .slice o es => if headSz sz es then (boundsA es.length es.length lo hi).map fun (l, h) => .slice (cutOwn o l h es.length) ((es.take h).drop l) else none
  | _ => none
def cutArr (n sz : Nat) (lo hi : Option AV) : AV → Option AV
  | .ptr id off => (boundsA n n lo hi).map fun (l, h) => .mslice id (off + l * sz) (h - l) (n - l)
  | _ => none
theorem boundsV_eq (ρ : AOpd → AV) (n m : Nat) (lo hi : Option AOpd) : boundsV ρ n m lo hi = boundsA n m (lo.map ρ) (hi.map ρ) := by
  cases lo <;> cases hi <;> rfl
theorem slStrV_eq (ρ : AOpd → AV) (lo hi : Option AOpd) (v : AV) : slStrV ρ lo hi v = cutStr (lo.map ρ) (hi.map ρ) v := by
  cases v <;> simp only [slStrV, cutStr, boundsV_eq]
theorem slV_eq (ρ : AOpd → AV) (sz : Nat) (lo hi : Option AOpd) (v : AV) : slV ρ sz lo hi v = cutSl sz (lo.map ρ) (hi.map ρ) v := by
  cases v <;> simp only [slV, cutSl, boundsV_eq]
theorem slArrV_eq (ρ : AOpd → AV) (n sz : Nat) (lo hi : Option AOpd) (v : AV) : slArrV ρ n sz lo hi v = cutArr n sz (lo.map ρ) (hi.map ρ) v := by
  cases v <;> simp only [slArrV, cutArr, boundsV_eq]
theorem cut_lo (k : IntKind) (j : Nat) (s : List UInt8) : cutStr (some (.int k (j : Int))) none (.str s) = if j ≤ s.length then some (.str (s.drop j)) else none := by
  simp only [cutStr, boundsA, natOf_nat, Nat.le_refl, if_true]
  split <;> simp
theorem cut_hi (k : IntKind) (j : Nat) (s : List UInt8) : cutStr none (some (.int k (j : Int))) (.str s) = if j ≤ s.length then some (.str (s.take j)) else none := by
  simp only [cutStr, boundsA, natOf_nat, Nat.zero_le, if_true]
  split <;> simp
theorem cut_both (k k' : IntKind) (i j : Nat) (s : List UInt8) : cutStr (some (.int k (i : Int))) (some (.int k' (j : Int))) (.str s) = if i ≤ j ∧ j ≤ s.length then some (.str ((s.take j).drop i)) else none := by
  simp only [cutStr, boundsA, natOf_nat]
  by_cases h1 : j ≤ s.length <;> by_cases h2 : i ≤ j <;> simp [h1, h2]
theorem cut_none (s : List UInt8) : cutStr none none (.str s) = some (.str s) := by
  simp [cutStr, boundsA]

/-! ### One operation -/
def cIntV (k : IntKind) : AV → Option AV
  | .int _ n => some (.int k (k.wrap n))
  | _ => none
def cRuneV : AV → Option AV
  | .int _ n => some (.str (Utf8.encode n).data.toList)
  | _ => none
def cStrV : AV → Option AV
  | .str s => some (.str s)
  | _ => none
def boxV (b k : Nat) (s : ASt) (v : AV) : Option (AV × ASt) := if v.okc then some (.ptr (b + k) 0, s.set (b + k) (.cells v.cells)) else none
def appK (b k sz bytes : Nat) (s : ASt) (x y : AV) : Option (AV × ASt) := match x, elemsV y with
  | .slice o es, some new => appV b k sz bytes s o es new
  | _, _ => none
def deferV (s : ASt) (l : List AV) : AV → Option (AV × ASt)
  | .func g first captured => some (udf, { s with dfr := (g, first ++ l ++ captured) :: s.dfr })
  | _ => none

section
variable {X : Ctx} {b : Nat} {e : AEnv} {h : Hp} {c : Nat} {d : List (Nat × List AV)} {s : ASt} {K : AV → ASt → Prop} {vK : Veil K}

theorem OpK_move (x : AOpd) : OpK X b (.move x) e ⟨h, c, d⟩ K vK = OptK (some (ev e x)) (fun v => K v ⟨h, c, d⟩) .mk := by
  unfold OpK opK; first | rfl | (simp only [AOp.kd, opV, OptK]; first | rfl | (cases ev e x <;> rfl))
theorem OpK_pick (z x y : AOpd) : OpK X b (.pick z x y) e ⟨h, c, d⟩ K vK = OptK (pickV (ev e x) (ev e y) (ev e z)) (fun v => K v ⟨h, c, d⟩) .mk := by
  unfold OpK opK; first | rfl | (simp only [AOp.kd, opV, OptK]; first | rfl | (cases ev e x <;> rfl))
theorem OpK_build (z : List AV) (ps : List (Nat × Nat × AOpd)) : OpK X b (.build z ps) e ⟨h, c, d⟩ K vK = OptK ((fillV (ev e) z ps).map AV.agg) (fun v => K v ⟨h, c, d⟩) .mk := by
  unfold OpK opK; first | rfl | (simp only [AOp.kd, opV, OptK]; first | rfl | (cases ev e x <;> rfl))
theorem OpK_buildSlice (sz : Nat) (ps : List AOpd) : OpK X b (.buildSlice sz ps) e ⟨h, c, d⟩ K vK = OptK ((partsV (ev e) sz ps).map fun es => .slice .full es) (fun v => K v ⟨h, c, d⟩) .mk := by
  unfold OpK opK; first | rfl | (simp only [AOp.kd, opV, OptK]; first | rfl | (cases ev e x <;> rfl))
theorem OpK_load (g : Bool) (sz : Nat) (x : AOpd) : OpK X b (.load g sz x) e ⟨h, c, d⟩ K vK = OptK (ldV g sz h (ev e x)) (fun v => K v ⟨h, c, d⟩) .mk := by
  unfold OpK opK; first | rfl | (simp only [AOp.kd, opV, OptK]; first | rfl | (cases ev e x <;> rfl))
theorem OpK_nilCheck (x : AOpd) : OpK X b (.nilCheck x) e ⟨h, c, d⟩ K vK = OptK (nilChk (ev e x)) (fun v => K v ⟨h, c, d⟩) .mk := by
  unfold OpK opK; first | rfl | (simp only [AOp.kd, opV, OptK]; first | rfl | (cases ev e x <;> rfl))
theorem OpK_bin (op : BinOp) (x y : AOpd) : OpK X b (.bin op x y) e ⟨h, c, d⟩ K vK = OptK (binV op (ev e x) (ev e y)) (fun v => K v ⟨h, c, d⟩) .mk := by
  unfold OpK opK; first | rfl | (simp only [AOp.kd, opV, OptK]; first | rfl | (cases ev e x <;> rfl))
theorem OpK_binNil (fn neq : Bool) (x y : AOpd) : OpK X b (.binNil fn neq x y) e ⟨h, c, d⟩ K vK = OptK ((nilV fn (ev e x) (ev e y)).map fun r => .bool (neq != r)) (fun v => K v ⟨h, c, d⟩) .mk := by
  unfold OpK opK; first | rfl | (simp only [AOp.kd, opV, OptK]; first | rfl | (cases ev e x <;> rfl))
theorem OpK_binEq (t : KeyT) (neq : Bool) (x y : AOpd) : OpK X b (.binEq t neq x y) e ⟨h, c, d⟩ K vK = OptK ((eqKey t (ev e x) (ev e y)).map fun r => .bool (neq != r)) (fun v => K v ⟨h, c, d⟩) .mk := by
  unfold OpK opK; first | rfl | (simp only [AOp.kd, opV, OptK]; first | rfl | (cases ev e x <;> rfl))
theorem OpK_un (op : UnOp) (x : AOpd) : OpK X b (.un op x) e ⟨h, c, d⟩ K vK = OptK (unV op (ev e x)) (fun v => K v ⟨h, c, d⟩) .mk := by
  unfold OpK opK; first | rfl | (simp only [AOp.kd, opV, OptK]; first | rfl | (cases ev e x <;> rfl))
theorem OpK_convInt (k : IntKind) (x : AOpd) : OpK X b (.convInt k x) e ⟨h, c, d⟩ K vK = OptK (cIntV k (ev e x)) (fun v => K v ⟨h, c, d⟩) .mk := by
  unfold OpK opK; first | rfl | (simp only [AOp.kd, opV, OptK]; first | rfl | (cases ev e x <;> rfl))
theorem OpK_convRune (x : AOpd) : OpK X b (.convRune x) e ⟨h, c, d⟩ K vK = OptK (cRuneV (ev e x)) (fun v => K v ⟨h, c, d⟩) .mk := by
  unfold OpK opK; first | rfl | (simp only [AOp.kd, opV, OptK]; first | rfl | (cases ev e x <;> rfl))
theorem OpK_convStr (x : AOpd) : OpK X b (.convStr x) e ⟨h, c, d⟩ K vK = OptK (cStrV (ev e x)) (fun v => K v ⟨h, c, d⟩) .mk := by
  unfold OpK opK; first | rfl | (simp only [AOp.kd, opV, OptK]; first | rfl | (cases ev e x <;> rfl))
theorem OpK_convBytes (x : AOpd) : OpK X b (.convBytes x) e ⟨h, c, d⟩ K vK = OptK (strOfV h (ev e x)) (fun v => K v ⟨h, c, d⟩) .mk := by
  unfold OpK opK; first | rfl | (simp only [AOp.kd, opV, OptK]; first | rfl | (cases ev e x <;> rfl))
theorem OpK_mkfunc (f : Nat) (fi ca : List AOpd) : OpK X b (.mkfunc f fi ca) e ⟨h, c, d⟩ K vK = OptK (some (.func f (fi.map (ev e)) (ca.map (ev e)))) (fun v => K v ⟨h, c, d⟩) .mk := by
  unfold OpK opK; first | rfl | (simp only [AOp.kd, opV, OptK]; first | rfl | (cases ev e x <;> rfl))
theorem OpK_sliceStr (x : AOpd) (lo hi : Option AOpd) : OpK X b (.sliceStr x lo hi) e ⟨h, c, d⟩ K vK = OptK (cutStr (lo.map (ev e)) (hi.map (ev e)) (ev e x)) (fun v => K v ⟨h, c, d⟩) .mk := by
  rw [← slStrV_eq]; rfl
theorem OpK_sliceSl (sz : Nat) (x : AOpd) (lo hi : Option AOpd) : OpK X b (.sliceSl sz x lo hi) e ⟨h, c, d⟩ K vK = OptK (cutSl sz (lo.map (ev e)) (hi.map (ev e)) (ev e x)) (fun v => K v ⟨h, c, d⟩) .mk := by
  rw [← slV_eq]; rfl
theorem OpK_sliceArr (n sz : Nat) (x : AOpd) (lo hi : Option AOpd) : OpK X b (.sliceArr n sz x lo hi) e ⟨h, c, d⟩ K vK = OptK (cutArr n sz (lo.map (ev e)) (hi.map (ev e)) (ev e x)) (fun v => K v ⟨h, c, d⟩) .mk := by
  rw [← slArrV_eq]; rfl
theorem OpK_fieldAddr (off : Nat) (x : AOpd) : OpK X b (.fieldAddr off x) e ⟨h, c, d⟩ K vK = OptK (fadV off (ev e x)) (fun v => K v ⟨h, c, d⟩) .mk := by
  unfold OpK opK; first | rfl | (simp only [AOp.kd, opV, OptK]; first | rfl | (cases ev e x <;> rfl))
theorem OpK_field (g : Bool) (sz off : Nat) (x : AOpd) : OpK X b (.field g sz off x) e ⟨h, c, d⟩ K vK = OptK (fldV g sz off (ev e x)) (fun v => K v ⟨h, c, d⟩) .mk := by
  unfold OpK opK; first | rfl | (simp only [AOp.kd, opV, OptK]; first | rfl | (cases ev e x <;> rfl))
theorem OpK_idxAddr (sz : Nat) (x i : AOpd) : OpK X b (.idxAddr sz x i) e ⟨h, c, d⟩ K vK = OptK (idxV sz (ev e i) (ev e x)) (fun v => K v ⟨h, c, d⟩) .mk := by
  unfold OpK opK; first | rfl | (simp only [AOp.kd, opV, OptK]; first | rfl | (cases ev e x <;> rfl))
theorem OpK_idxAddrArr (len sz : Nat) (x i : AOpd) : OpK X b (.idxAddrArr len sz x i) e ⟨h, c, d⟩ K vK = OptK (idxArrV len sz (ev e i) (ev e x)) (fun v => K v ⟨h, c, d⟩) .mk := by
  unfold OpK opK; first | rfl | (simp only [AOp.kd, opV, OptK]; first | rfl | (cases ev e x <;> rfl))
theorem OpK_idxStr (x i : AOpd) : OpK X b (.idxStr x i) e ⟨h, c, d⟩ K vK = OptK (strAt (ev e i) (ev e x)) (fun v => K v ⟨h, c, d⟩) .mk := by
  unfold OpK opK; first | rfl | (simp only [AOp.kd, opV, OptK]; first | rfl | (cases ev e x <;> rfl))
theorem OpK_idxArr (len : Nat) (g : Bool) (sz : Nat) (x i : AOpd) : OpK X b (.idxArr len g sz x i) e ⟨h, c, d⟩ K vK = OptK (aggAt len g sz (ev e i) (ev e x)) (fun v => K v ⟨h, c, d⟩) .mk := by
  unfold OpK opK; first | rfl | (simp only [AOp.kd, opV, OptK]; first | rfl | (cases ev e x <;> rfl))
theorem OpK_lookup (t : KeyT) (z : AV) (ok : Bool) (m i : AOpd) : OpK X b (.lookup t z ok m i) e ⟨h, c, d⟩ K vK = OptK (keyed t (ev e i) (lookM t z ok h (ev e i) (ev e m))) (fun v => K v ⟨h, c, d⟩) .mk := by
  unfold OpK opK; first | rfl | (simp only [AOp.kd, opV, OptK]; first | rfl | (cases ev e x <;> rfl))
theorem OpK_extract (n : Nat) (x : AOpd) : OpK X b (.extract n x) e ⟨h, c, d⟩ K vK = OptK (extV n (ev e x)) (fun v => K v ⟨h, c, d⟩) .mk := by
  unfold OpK opK; first | rfl | (simp only [AOp.kd, opV, OptK]; first | rfl | (cases ev e x <;> rfl))
theorem OpK_lenOf (st : Bool) (x : AOpd) : OpK X b (.lenOf st x) e ⟨h, c, d⟩ K vK = OptK (lenV st (ev e x)) (fun v => K v ⟨h, c, d⟩) .mk := by
  unfold OpK opK; first | rfl | (simp only [AOp.kd, opV, OptK]; first | rfl | (cases ev e x <;> rfl))
theorem OpK_lenMap (x : AOpd) : OpK X b (.lenMap x) e ⟨h, c, d⟩ K vK = OptK (lenMapV h (ev e x)) (fun v => K v ⟨h, c, d⟩) .mk := by
  unfold OpK opK; first | rfl | (simp only [AOp.kd, opV, OptK]; first | rfl | (cases ev e x <;> rfl))
theorem OpK_mx (m : Bool) (x y : AOpd) : OpK X b (.mx m x y) e ⟨h, c, d⟩ K vK = OptK (mxV m (ev e x) (ev e y)) (fun v => K v ⟨h, c, d⟩) .mk := by
  unfold OpK opK; first | rfl | (simp only [AOp.kd, opV, OptK]; first | rfl | (cases ev e x <;> rfl))
theorem OpK_alloc (k : Nat) (z : List AV) (hz : h (b + k) = some (.cells z)) : OpK X b (.alloc k z) e ⟨h, c, d⟩ K vK = K (.ptr (b + k) 0) ⟨h, c, d⟩ := by
  unfold OpK opK; simp only [AOp.kd, opV, hz, if_true, optK]
theorem OpK_call (f : AOpd) (args : List AOpd) : OpK X b (.call f args) e s K vK = CallK X s K (callV (ev e) f args) .mk := rfl
theorem OpK_box (k : Nat) (x : AOpd) : OpK X b (.box k x) e s K vK = OptK (boxV b k s (ev e x)) (fun r => K r.1 r.2) .mk := by
  unfold OpK opK; first | rfl | (simp only [AOp.kd, opW, OptK]; rfl)
theorem OpK_mkmap (k : Nat) : OpK X b (.mkmap k) e s K vK = OptK (some (.map (b + k), s.set (b + k) (.map [] 0))) (fun r => K r.1 r.2) .mk := by
  unfold OpK opK; first | rfl | (simp only [AOp.kd, opW, OptK]; rfl)
theorem OpK_store (sz : Nat) (x y : AOpd) : OpK X b (.store sz x y) e s K vK = OptK ((stV sz s (ev e y) (ev e x)).map fun s' => (udf, s')) (fun r => K r.1 r.2) .mk := by
  unfold OpK opK; first | rfl | (simp only [AOp.kd, opW, OptK]; rfl)
theorem OpK_mapUpd (t : KeyT) (m k v : AOpd) : OpK X b (.mapUpd t m k v) e s K vK = OptK (keyed t (ev e k) ((updM t s (ev e k) (ev e v) (ev e m)).map fun s' => (udf, s'))) (fun r => K r.1 r.2) .mk := by
  unfold OpK opK; first | rfl | (simp only [AOp.kd, opW, OptK]; rfl)
theorem OpK_mapTouch (t : KeyT) (z : AV) (m k : AOpd) : OpK X b (.mapTouch t z m k) e s K vK = OptK (keyed t (ev e k) (touchM t s (ev e k) z (ev e m))) (fun r => K r.1 r.2) .mk := by
  unfold OpK opK; first | rfl | (simp only [AOp.kd, opW, OptK]; rfl)
theorem OpK_entrySet (m n v : AOpd) : OpK X b (.entrySet m n v) e s K vK = OptK ((stampM s (ev e n) (ev e v) (ev e m)).map fun s' => (udf, s')) (fun r => K r.1 r.2) .mk := by
  unfold OpK opK; first | rfl | (simp only [AOp.kd, opW, OptK]; rfl)
theorem OpK_append (k sz bytes : Nat) (x y : AOpd) : OpK X b (.append k sz bytes x y) e s K vK = OptK (appK b k sz bytes s (ev e x) (ev e y)) (fun r => K r.1 r.2) .mk := by
  unfold OpK opK; first | rfl | (simp only [AOp.kd, opW, OptK]; rfl)
theorem OpK_defer (f : AOpd) (args : List AOpd) : OpK X b (.defer f args) e s K vK = OptK (deferV s (args.map (ev e)) (ev e f)) (fun r => K r.1 r.2) .mk := by
  unfold OpK opK; first | rfl | (simp only [AOp.kd, opW, OptK]; rfl)
end

section
variable {X : Ctx} {b i : Nat} {os : List AOper} {op : AOp} {lg : List Log} {e : AEnv} {s : ASt} {K : AEnv → ASt → List Log → Prop} {vK : Veil K}
theorem OpsK_nil {m : List Nat} {v : Veil ([] : List AOper)} : OpsK X b m [] i lg e s K v vK = K e s lg := rfl
theorem OpsK_some {d : Nat} {v : Veil (AOper.mk (some d) none op :: os)} : OpsK X b [] (AOper.mk (some d) none op :: os) i lg e s K v vK = OpK X b op e s (fun v s' => OpsK X b [] os 0 lg ((d, v) :: e) s' K .mk .mk) .mk := opsK_cons0 ..
theorem OpsK_none {v : Veil (AOper.mk none none op :: os)} : OpsK X b [] (AOper.mk none none op :: os) i lg e s K v vK = OpK X b op e s (fun v s' => OpsK X b [] os 0 lg e s' K .mk .mk) .mk := opsK_cons0 ..
theorem OpsK_guard {dst : Option Nat} {t : Nat} {w : Bool} {v : Veil (AOper.mk dst (some (t, w)) op :: os)} : OpsK X b [] (AOper.mk dst (some (t, w)) op :: os) i lg e s K v vK =
    CondV (.bool (wanted e (some (t, w)))) (OpK X b op e s (fun v s' => OpsK X b [] os 0 lg (e.put dst v) s' K .mk .mk) .mk) (OpsK X b [] os 0 lg (e.put dst udf) s K .mk .mk) .mk .mk := opsK_cons0 ..
/-- In a region with pairs: with logs. -/
theorem OpsK_some1 {m : List Nat} {j d : Nat} {v : Veil (AOper.mk (some d) none op :: os)} : OpsK X b (j :: m) (AOper.mk (some d) none op :: os) i lg e s K v vK =
    OpK X b op e s (fun v s' => OpsK X b (j :: m) os (i + 1) (if (j :: m).contains i then { i, key := opKey (ev e) b op, h := s.heap, h' := s'.heap } :: lg else lg) ((d, v) :: e) s' K .mk .mk) .mk := rfl
theorem OpsK_none1 {m : List Nat} {j : Nat} {v : Veil (AOper.mk none none op :: os)} : OpsK X b (j :: m) (AOper.mk none none op :: os) i lg e s K v vK =
    OpK X b op e s (fun v s' => OpsK X b (j :: m) os (i + 1) (if (j :: m).contains i then { i, key := opKey (ev e) b op, h := s.heap, h' := s'.heap } :: lg else lg) e s' K .mk .mk) .mk := rfl
theorem OpsK_guard1 {m : List Nat} {j : Nat} {dst : Option Nat} {t : Nat} {w : Bool} {v : Veil (AOper.mk dst (some (t, w)) op :: os)} : OpsK X b (j :: m) (AOper.mk dst (some (t, w)) op :: os) i lg e s K v vK =
    CondV (.bool (wanted e (some (t, w)))) (OpK X b op e s (fun v s' => OpsK X b (j :: m) os (i + 1) (if (j :: m).contains i then { i, key := opKey (ev e) b op, h := s.heap, h' := s'.heap } :: lg else lg) (e.put dst v) s' K .mk .mk) .mk)
      (OpsK X b (j :: m) os (i + 1) lg (e.put dst udf) s K .mk .mk) .mk .mk := rfl
end

end Go.Proofs.YtggdpckdlcngpaaDoor.Abs
