/-
  VG, part A: values read as numbers, bools, addresses; the nodes of expressions, what each yields and when; that the model's operation does just that. Over any program (and what goes with it: parts VgA VgB VgC VgD VgE VgF VgG VgH).
-/
import Derived.OrdersHeld
import Derived.KernelRfl
import Derived.Laws.Sem
import Derived.Laws.World

/-! ## VG, part A: values read as numbers, bools, addresses; the nodes of expressions, what each yields and when; that the model's operation does just that. Over any program. -/
namespace Go.Proofs.Ytgjnfajdejkkjaa.VG
open Go
set_option linter.unusedSimpArgs false
set_option linter.unusedVariables false
set_option maxRecDepth 20000

def asI : Value → Int | .int _ n => n | _ => 0
def asB : Value → Bool | .bool b => b | _ => false
def asA : Value → Addr | .pointer (some a) => a | _ => default
def asS : Value → ByteArray | .string s => s | _ => ByteArray.empty
def isI (k : IntKind) : Value → Prop | .int k' _ => k' = k | _ => False
def isInt : Value → Prop | .int _ _ => True | _ => False
def isB : Value → Prop | .bool _ => True | _ => False
def isP : Value → Prop | .pointer (some _) => True | _ => False
def isPtr : Value → Prop | .pointer _ => True | _ => False
def isS : Value → Prop | .slice _ _ _ => True | _ => False
def isStr : Value → Prop | .string _ => True | _ => False
def isAg : Value → Prop | .agg _ => True | _ => False
def isTu : Value → Prop | .tuple _ => True | _ => False
def slA : Value → Option Addr | .slice a _ _ => a | _ => none
def slL : Value → Nat | .slice _ n _ => n | _ => 0
def slC : Value → Nat | .slice _ _ n => n | _ => 0
def agC : Value → Array Value | .agg cs => cs | _ => #[]
def tuC : Value → Array Value | .tuple vs => vs | _ => #[]
def notNil : Value → Prop | .pointer (some _) => True | .func (.func _) _ _ => True | _ => False
def ptrNil : Value → Bool | .pointer none => true | _ => false
def slNil : Value → Bool | .slice none _ _ => true | _ => false

theorem add_mk (b o n : Nat) : (⟨b, o, none⟩ : Addr).add n = ⟨b, o + n, none⟩ := by
  unfold Addr.add; split <;> simp_all

def arith : BinOp → Int → Int → Int
  | .add, x, y => x + y
  | .sub, x, y => x - y
  | _, x, y => x * y

def bitw (op : BinOp) (k : IntKind) (x y : Int) : Int :=
  match op with
  | .and => k.wrap (BitVec.ofInt k.bits x &&& BitVec.ofInt k.bits y).toNat
  | .or => k.wrap (BitVec.ofInt k.bits x ||| BitVec.ofInt k.bits y).toNat
  | .xor => k.wrap (BitVec.ofInt k.bits x ^^^ BitVec.ofInt k.bits y).toNat
  | _ => k.wrap (BitVec.ofInt k.bits x &&& ~~~(BitVec.ofInt k.bits y)).toNat

def shl (k : IntKind) (x y : Int) : Int := k.wrap (x * 2 ^ (min y.toNat k.bits))
def shr (k : IntKind) (x y : Int) : Int := x.fdiv (2 ^ (min y.toNat k.bits))

def cmpi : BinOp → Int → Int → Bool
  | .eql, x, y => x == y
  | .neq, x, y => x != y
  | .lss, x, y => decide (x < y)
  | .leq, x, y => decide (x ≤ y)
  | .gtr, x, y => decide (x > y)
  | _, x, y => decide (x ≥ y)

/-! ### Nodes of one operand -/
inductive U where
  | not | neg (k : IntKind) | cpl (k : IntKind) | cv (k : IntKind)
  | nck | fa (off : Nat) | fe1 (off : Nat) | feN (off n : Nat) | ex (i : Nat)
  | ln | cp | lnS | kst (n : Int) | pnil (neg : Bool) | snil (neg : Bool)

def U.val : U → Value → Value
  | .not, v => .bool (!asB v)
  | .neg k, v => .int k (k.wrap (0 - asI v))
  | .cpl k, v => .int k (bitw .xor k (if k.signed then -1 else k.max) (asI v))
  | .cv k, v => .int k (k.wrap (asI v))
  | .nck, v => v
  | .fa off, v => .pointer (some ((asA v).add off))
  | .fe1 off, v => (agC v).getD off undef
  | .feN off n, v => .agg ((agC v).extract off (off + n))
  | .ex i, v => (tuC v).getD i undef
  | .ln, v => .int .i64 (slL v)
  | .cp, v => .int .i64 (slC v)
  | .lnS, v => .int .i64 (asS v).size
  | .kst n, _ => .int .i64 n
  | .pnil b, v => .bool (ptrNil v != b)
  | .snil b, v => .bool (slNil v != b)

def U.ok : U → Value → Prop
  | .not, v => isB v
  | .neg k, v => isI k v
  | .cpl k, v => isI k v
  | .cv _, v => isInt v
  | .nck, v => notNil v
  | .fa _, v => isP v
  | .fe1 off, v => isAg v ∧ off < (agC v).size
  | .feN _ _, v => isAg v
  | .ex i, v => isTu v ∧ i < (tuC v).size
  | .ln, v => isS v
  | .cp, v => isS v
  | .lnS, v => isStr v
  | .kst _, _ => True
  | .pnil _, v => isPtr v
  | .snil _, v => isS v

def isAggD : TypeDesc → Bool
  | .struct _ | .array _ _ => true
  | _ => false

def cmpOp : BinOp → Bool
  | .eql | .neq | .lss | .leq | .gtr | .geq => true
  | _ => false

/-- The node of an operation of one operand. -/
def cU (P : Program) (o : Op) : Option (U × Operand) :=
  match o with
  | .unOp .not _ x => some (.not, x)
  | .unOp .neg t x => match P.underlying t with | some (.int k) => some (.neg k, x) | _ => none
  | .unOp .xor t x => match P.underlying t with | some (.int k) => some (.cpl k, x) | _ => none
  | .convert s d x => match P.underlying s, P.underlying d with | some (.int _), some (.int k) => some (.cv k, x) | _, _ => none
  | .nilCheck x => some (.nck, x)
  | .fieldAddr s x f => match P.underlying s with
    | some (.struct fs) => match fs[f]? with
      | some fl => match P.info? fl.type with
        | some i => if i.size = 0 then none else some (.fa fl.offset, x)
        | none => none
      | none => none
    | _ => none
  | .field s x f => match P.underlying s with
    | some (.struct fs) => match fs[f]? with
      | some fl => match P.underlying fl.type, P.info? fl.type with
        | some (.struct _), some i => some (.feN fl.offset i.size, x)
        | some (.array _ _), some i => some (.feN fl.offset i.size, x)
        | some _, some _ => some (.fe1 fl.offset, x)
        | _, _ => none
      | none => none
    | _ => none
  | .extract x i => some (.ex i, x)
  | .call { callee := .builtin .len, args, argTypes } =>
    match args[0]?, argTypes[0]? with
    | some x, some t => match P.underlying t with
      | some (.slice _) => some (.ln, x)
      | some .string => some (.lnS, x)
      | some (.array n _) => some (.kst n, x)
      | _ => none
    | _, _ => none
  | .call { callee := .builtin .cap, args, argTypes } =>
    match args[0]?, argTypes[0]? with
    | some x, some t => match P.underlying t with
      | some (.slice _) => some (.cp, x)
      | _ => none
    | _, _ => none
  | .binOp .eql t x (.const (.pointer none)) _ => match P.underlying t with | some (.pointer _) => some (.pnil false, x) | _ => none
  | .binOp .neq t x (.const (.pointer none)) _ => match P.underlying t with | some (.pointer _) => some (.pnil true, x) | _ => none
  | .binOp .eql t x (.const (.slice none 0 0)) _ => match P.underlying t with | some (.slice _) => some (.snil false, x) | _ => none
  | .binOp .neq t x (.const (.slice none 0 0)) _ => match P.underlying t with | some (.slice _) => some (.snil true, x) | _ => none
  | _ => none

section
variable {P : Program}

theorem run_bind {α β : Type} (x : Sem α) (f : α → Sem β) (w : World) : (x >>= f).run P w = match x.run P w with | .ok a w' => (f a).run P w' | .halt h w' => .halt h w' := by
  have : ∀ (x : Sem α) (w : World), (Sem.bind x f).run P w = match x.run P w with | .ok a w' => (f a).run P w' | .halt h w' => .halt h w' := by
    intro x
    induction x with
    | pure a => intro w; simp [Sem.bind, Sem.run]
    | load m a k ih => intro w; simp only [Sem.bind, Sem.run]; (repeat' split) <;> simp_all
    | store m a v k ih =>
      intro w
      cases v <;> simp only [Sem.bind, Sem.run] <;> first | (simp; done) | ((repeat' split) <;> simp_all)
    | new o k ih => intro w; simp [Sem.bind, Sem.run, ih]
    | shape r k ih => intro w; simp [Sem.bind, Sem.run, ih]
    | freeze a n k ih => intro w; simp [Sem.bind, Sem.run, ih]
    | frozen a k ih => intro w; simp [Sem.bind, Sem.run, ih]
    | getObj r k ih => intro w; simp only [Sem.bind, Sem.run]; split <;> simp_all
    | setObj r o k ih => intro w; simp only [Sem.bind, Sem.run]; split <;> simp_all
    | choose q k ih => intro w; simp only [Sem.bind, Sem.run]; split <;> simp_all
    | sys c k ih => intro w; simp [Sem.bind, Sem.run, ih]
    | program k ih => intro w; simp [Sem.bind, Sem.run, ih]
    | mark m k ih => intro w; simp [Sem.bind, Sem.run, ih]
    | halt h => intro w; simp [Sem.bind, Sem.run]
  exact this x w

theorem run_pure {α : Type} (a : α) (w : World) : (pure a : Sem α).run P w = .ok a w := rfl
theorem run_program (w : World) : program.run P w = .ok P w := rfl
theorem run_underlying {t : TypeId} {d : TypeDesc} (h : P.underlying t = some d) (w : World) : (underlying t).run P w = .ok d w := by
  unfold underlying; simp [run_bind, run_program, h, run_pure]
theorem run_typeInfo {t : TypeId} {d : TypeInfo} (h : P.info? t = some d) (w : World) : (typeInfo t).run P w = .ok d w := by
  unfold typeInfo; simp [run_bind, run_program, h, run_pure]
theorem run_sizeOf {t : TypeId} {d : TypeInfo} (h : P.info? t = some d) (w : World) : (sizeOf t).run P w = .ok d.size w := by
  unfold sizeOf; simp [run_bind, run_typeInfo h, run_pure]
theorem run_zeroValue {t : TypeId} {d : TypeInfo} {z : Value} (h : P.info? t = some d) (hz : d.zero = some z) (w : World) : (zeroValue t).run P w = .ok z w := by
  unfold zeroValue; simp [run_bind, run_typeInfo h, hz, run_pure]


theorem run_isAgg {t : TypeId} {d : TypeDesc} (h : P.underlying t = some d) (w : World) : (isAgg t).run P w = .ok (isAggD d) w := by
  unfold isAgg; rw [run_bind, run_underlying h]; cases d <;> rfl

theorem getD_of_lt (cs : Array Value) (i : Nat) (h : i < cs.size) : cs[i]? = some (cs.getD i undef) := by
  simp [h]

theorem equal_ptr {t e : TypeId} (hu : P.underlying t = some (.pointer e)) (a : Option Addr) (w : World) : (Op.equal t (.pointer a) (.pointer none)).run P w = .ok a.isNone w := by
  unfold Op.equal Op.maxDepth
  rw [Op.equalIn, run_bind, run_underlying hu]
  cases a <;> rfl
theorem equal_sl {t e : TypeId} (hu : P.underlying t = some (.slice e)) (a : Option Addr) (n c : Nat) (w : World) : (Op.equal t (.slice a n c) (.slice none 0 0)).run P w = .ok a.isNone w := by
  unfold Op.equal Op.maxDepth
  rw [Op.equalIn, run_bind, run_underlying hu]
  cases a <;> rfl
theorem run_pnil {t e : TypeId} (hu : P.underlying t = some (.pointer e)) (v : Value) (h : isPtr v) (x y : Operand) (w : World) :
    (do let r ← (do eqGuard .eql t x y v (.pointer none); binOp .eql t v (.pointer none)); pure (Next.value r) : Sem Next).run P w = .ok (.value (.bool (ptrNil v != false))) w := by
  cases v with
  | pointer a =>
    have e : (eqGuard .eql t x y (.pointer a) (.pointer none)).run P w = .ok () w := rfl
    rw [run_bind, run_bind, e]
    simp only [binOp, run_bind, equal_ptr hu, run_pure]
    cases a <;> rfl
  | _ => exact h.elim
theorem run_pnil' {t e : TypeId} (hu : P.underlying t = some (.pointer e)) (v : Value) (h : isPtr v) (x y : Operand) (w : World) :
    (do let r ← (do eqGuard .neq t x y v (.pointer none); binOp .neq t v (.pointer none)); pure (Next.value r) : Sem Next).run P w = .ok (.value (.bool (ptrNil v != true))) w := by
  cases v with
  | pointer a =>
    have e : (eqGuard .neq t x y (.pointer a) (.pointer none)).run P w = .ok () w := rfl
    rw [run_bind, run_bind, e]
    simp only [binOp, run_bind, equal_ptr hu, run_pure]
    cases a <;> rfl
  | _ => exact h.elim
theorem run_snil {t e : TypeId} (hu : P.underlying t = some (.slice e)) (v : Value) (h : isS v) (x y : Operand) (w : World) :
    (do let r ← (do eqGuard .eql t x y v (.slice none 0 0); binOp .eql t v (.slice none 0 0)); pure (Next.value r) : Sem Next).run P w = .ok (.value (.bool (slNil v != false))) w := by
  cases v with
  | slice a n c =>
    have e : (eqGuard .eql t x y (.slice a n c) (.slice none 0 0)).run P w = .ok () w := rfl
    rw [run_bind, run_bind, e]
    simp only [binOp, run_bind, equal_sl hu, run_pure]
    cases a <;> rfl
  | _ => exact h.elim
theorem run_snil' {t e : TypeId} (hu : P.underlying t = some (.slice e)) (v : Value) (h : isS v) (x y : Operand) (w : World) :
    (do let r ← (do eqGuard .neq t x y v (.slice none 0 0); binOp .neq t v (.slice none 0 0)); pure (Next.value r) : Sem Next).run P w = .ok (.value (.bool (slNil v != true))) w := by
  cases v with
  | slice a n c =>
    have e : (eqGuard .neq t x y (.slice a n c) (.slice none 0 0)).run P w = .ok () w := rfl
    rw [run_bind, run_bind, e]
    simp only [binOp, run_bind, equal_sl hu, run_pure]
    cases a <;> rfl
  | _ => exact h.elim

/-- The operation of a node of one operand yields what the node says, wherever it is carried out. -/
theorem cU_run {o : Oper} {n : U} {x : Operand} (h : cU P o.op = some (n, x)) (ρ : Operand → Value) (hc : ∀ v, ρ (.const v) = v) (hok : n.ok (ρ x)) (w : World) :
    (execOp ρ o).run P w = .ok (.value (n.val (ρ x))) w := by
  obtain ⟨dst, op, ty, pos, af, gd⟩ := o
  simp only [cU] at h
  split at h
  case h_1 x' =>
    cases h
    simp only [execOp, U.val]
    simp only [U.ok] at hok
    cases hv : ρ x <;> simp_all [isB, Op.unary, run_bind, run_pure, asB]
  case h_2 t x' =>
    split at h <;> cases h
    rename_i k _
    simp only [execOp, U.val]
    simp only [U.ok] at hok
    cases hv : ρ x <;> simp_all [isI, Op.unary, run_bind, run_pure, asI, Op.intArith]
  case h_3 t x' =>
    split at h <;> cases h
    rename_i k _
    simp only [execOp, U.val]
    simp only [U.ok] at hok
    cases hv : ρ x <;> simp_all [isI, Op.unary, run_bind, run_pure, asI, Op.intBits, bitw]
  case h_4 s d x' =>
    split at h <;> cases h
    rename_i k0 k h1 h2
    simp only [execOp, U.val]
    simp only [U.ok] at hok
    cases hv : ρ x <;> simp_all [isInt, convert, run_bind, run_underlying h1, run_underlying h2, run_pure, asI, Conv.intToInt]
  case h_5 x' =>
    cases h
    simp only [execOp, U.val]
    simp only [U.ok] at hok
    cases hv : ρ x <;> simp_all [notNil, run_pure]
    · rename_i a; cases a <;> simp_all [notNil, run_pure]
    · rename_i fn _ _; cases fn <;> simp_all [notNil, run_pure]
  case h_6 s x' f =>
    split at h
    case h_1 fs hs =>
      split at h
      case h_1 fl hf =>
        split at h
        case h_1 i hi =>
          split at h
          · cases h
          · cases h
            rename_i hne
            simp only [execOp, U.val]
            simp only [U.ok] at hok
            cases hv : ρ x <;> simp_all [isP]
            rename_i a
            cases a <;> simp_all [isP, Instr.fieldAt, run_bind, run_underlying hs, hf, Instr.sureAddr, run_pure, fieldPlace, run_sizeOf hi, hne, asA]
        case h_2 => cases h
      case h_2 => cases h
    case h_2 => cases h
  case h_7 s x' f =>
    split at h
    case h_1 fs hs =>
      split at h
      case h_1 fl hf =>
        split at h
        case h_1 i fs' hu hi =>
          cases h
          simp only [execOp, U.val]
          simp only [U.ok] at hok
          cases hv : ρ x <;> simp_all [isAg]
          simp [Instr.field, run_bind, run_underlying hs, hf, asAgg, run_pure, part, run_isAgg hu, isAggD, run_sizeOf hi, agC]
        case h_2 i a b hu hi =>
          cases h
          simp only [execOp, U.val]
          simp only [U.ok] at hok
          cases hv : ρ x <;> simp_all [isAg]
          simp [Instr.field, run_bind, run_underlying hs, hf, asAgg, run_pure, part, run_isAgg hu, isAggD, run_sizeOf hi, agC]
        case h_3 d i h1 h2 hu hi =>
          cases h
          simp only [execOp, U.val]
          simp only [U.ok] at hok
          have e : isAggD d = false := by cases d <;> first | rfl | exact (h1 _ rfl).elim | exact (h2 _ _ rfl).elim
          generalize ρ x = v at *
          cases v with
          | agg cs =>
            have hlt := hok.2
            simp only [agC] at hlt
            simp [Instr.field, run_bind, run_underlying hs, hf, asAgg, run_pure, part, run_isAgg hu, e, agC, hlt]
          | _ => exact hok.1.elim
        case h_4 => cases h
      case h_2 => cases h
    case h_2 => cases h
  case h_8 x' i =>
    cases h
    simp only [execOp, U.val]
    simp only [U.ok] at hok
    generalize ρ x = v at *
    cases v with
    | tuple vs =>
      have hlt := hok.2
      simp only [tuC] at hlt
      simp [Instr.extract, run_bind, run_pure, tuC, hlt]
    | _ => exact hok.1.elim
  case h_9 args argTypes =>
    split at h
    case h_1 x' t hx ht =>
      have h0 : (args.map ρ)[0]? = some (ρ x') := by simp [hx]
      split at h <;> cases h
      all_goals
        rename_i hu
        simp only [U.ok] at hok
        simp only [execOp, resolve, invoke, builtin, run_bind, run_pure, Builtin.len_, ht, h0, run_underlying hu, U.val]
      · cases hv : ρ x <;> simp_all [isS, run_pure, goInt, slL]
      · cases hv : ρ x <;> simp_all [isStr, run_pure, goInt, asS]
      · simp [run_pure, goInt]
    case h_2 => cases h
  case h_10 args argTypes =>
    split at h
    case h_1 x' t hx ht =>
      have h0 : (args.map ρ)[0]? = some (ρ x') := by simp [hx]
      split at h <;> cases h
      rename_i hu
      simp only [U.ok] at hok
      simp only [execOp, resolve, invoke, builtin, run_bind, run_pure, Builtin.cap_, ht, h0, run_underlying hu, U.val]
      cases hv : ρ x <;> simp_all [isS, run_pure, goInt, slC]
    case h_2 => cases h
  case h_11 t x' ty' =>
    split at h <;> cases h
    rename_i e hu
    simp only [U.ok] at hok
    simp only [execOp, U.val, hc]
    exact run_pnil hu _ hok _ _ _
  case h_12 t x' ty' =>
    split at h <;> cases h
    rename_i e hu
    simp only [U.ok] at hok
    simp only [execOp, U.val, hc]
    exact run_pnil' hu _ hok _ _ _
  case h_13 t x' ty' =>
    split at h <;> cases h
    rename_i e hu
    simp only [U.ok] at hok
    simp only [execOp, U.val, hc]
    exact run_snil hu _ hok _ _ _
  case h_14 t x' ty' =>
    split at h <;> cases h
    rename_i e hu
    simp only [U.ok] at hok
    simp only [execOp, U.val, hc]
    exact run_snil' hu _ hok _ _ _
  case h_15 => cases h

end
end Go.Proofs.Ytgjnfajdejkkjaa.VG

/-! ## VG, part B: nodes of two operands. -/
namespace Go.Proofs.Ytgjnfajdejkkjaa.VG
open Go
set_option linter.unusedSimpArgs false
set_option linter.unusedVariables false
set_option maxRecDepth 20000

def slB (v : Value) : Addr := (slA v).getD default

inductive B where
  | ar (op : BinOp) (k : IntKind) | dv (rem : Bool) (k : IntKind) | bt (op : BinOp) (k : IntKind) | sh (left : Bool) (k : IntKind)
  | cm (op : BinOp) (k : IntKind) | eqb (ng : Bool) | eqs (ng : Bool)
  | ia (size : Nat) | aa (len size : Nat) | ix1 (len size : Nat) | ixN (len size : Nat) | ixs
  | mx (k : IntKind) | mn (k : IntKind)

def B.val : B → Value → Value → Value
  | .ar op k, x, y => .int k (k.wrap (arith op (asI x) (asI y)))
  | .dv false k, x, y => .int k (k.wrap ((asI x).tdiv (asI y)))
  | .dv true k, x, y => .int k ((asI x).tmod (asI y))
  | .bt op k, x, y => .int k (bitw op k (asI x) (asI y))
  | .sh true k, x, y => .int k (shl k (asI x) (asI y))
  | .sh false k, x, y => .int k (shr k (asI x) (asI y))
  | .cm op _, x, y => .bool (cmpi op (asI x) (asI y))
  | .eqb ng, x, y => .bool ((asB x == asB y) != ng)
  | .eqs ng, x, y => .bool (((asS x).toList == (asS y).toList) != ng)
  | .ia size, x, y => .pointer (some ((slB x).add ((asI y).toNat * size)))
  | .aa _ size, x, y => .pointer (some ((asA x).add ((asI y).toNat * size)))
  | .ix1 _ size, x, y => (agC x).getD ((asI y).toNat * size) undef
  | .ixN _ size, x, y => .agg ((agC x).extract ((asI y).toNat * size) ((asI y).toNat * size + size))
  | .ixs, x, y => .int .u8 ((asS x)[(asI y).toNat]?.getD 0).toNat
  | .mx k, x, y => .int k (if asI y > asI x then asI y else asI x)
  | .mn k, x, y => .int k (if asI y < asI x then asI y else asI x)

def B.ok : B → Value → Value → Prop
  | .ar _ k, x, y => isI k x ∧ isI k y
  | .dv _ k, x, y => (isI k x ∧ isI k y) ∧ asI y ≠ 0
  | .bt _ k, x, y => isI k x ∧ isI k y
  | .sh _ k, x, y => (isI k x ∧ isInt y) ∧ 0 ≤ asI y
  | .cm _ k, x, y => isI k x ∧ isI k y
  | .eqb _, x, y => isB x ∧ isB y
  | .eqs _, x, y => isStr x ∧ isStr y
  | .ia _, x, y => (isS x ∧ isInt y) ∧ (slA x).isSome ∧ 0 ≤ asI y ∧ asI y < slL x
  | .aa n _, x, y => (isP x ∧ isInt y) ∧ 0 ≤ asI y ∧ asI y < n
  | .ix1 n size, x, y => (isAg x ∧ isInt y) ∧ 0 ≤ asI y ∧ asI y < n ∧ (asI y).toNat * size < (agC x).size
  | .ixN n _, x, y => (isAg x ∧ isInt y) ∧ 0 ≤ asI y ∧ asI y < n
  | .ixs, x, y => (isStr x ∧ isInt y) ∧ 0 ≤ asI y ∧ asI y < (asS x).size
  | .mx k, x, y => isI k x ∧ isI k y
  | .mn k, x, y => isI k x ∧ isI k y

def cB (P : Program) (o : Op) : Option (B × Operand × Operand) :=
  match o with
  | .binOp op t x y _ => match P.underlying t with
    | some (.int k) => match op with
      | .add => some (.ar .add k, x, y)
      | .sub => some (.ar .sub k, x, y)
      | .mul => some (.ar .mul k, x, y)
      | .quo => some (.dv false k, x, y)
      | .rem => some (.dv true k, x, y)
      | .and => some (.bt .and k, x, y)
      | .or => some (.bt .or k, x, y)
      | .xor => some (.bt .xor k, x, y)
      | .andNot => some (.bt .andNot k, x, y)
      | .shl => some (.sh true k, x, y)
      | .shr => some (.sh false k, x, y)
      | .eql => some (.cm .eql k, x, y)
      | .neq => some (.cm .neq k, x, y)
      | .lss => some (.cm .lss k, x, y)
      | .leq => some (.cm .leq k, x, y)
      | .gtr => some (.cm .gtr k, x, y)
      | .geq => some (.cm .geq k, x, y)
    | some .bool => match op with
      | .eql => some (.eqb false, x, y)
      | .neq => some (.eqb true, x, y)
      | _ => none
    | some .string => match op with
      | .eql => some (.eqs false, x, y)
      | .neq => some (.eqs true, x, y)
      | _ => none
    | _ => none
  | .indexAddr t x y => match P.underlying t with
    | some (.slice e) => match P.info? e with
      | some i => some (.ia i.size, x, y)
      | none => none
    | some (.array n e) => match P.info? e with
      | some i => some (.aa n i.size, x, y)
      | none => none
    | _ => none
  | .index t x y => match P.underlying t with
    | some (.array n e) => match P.info? e, P.underlying e with
      | some i, some d => if isAggD d then some (.ixN n i.size, x, y) else some (.ix1 n i.size, x, y)
      | _, _ => none
    | some .string => some (.ixs, x, y)
    | _ => none
  | .call { callee := .builtin .max, args, argTypes } =>
    match args.toList, argTypes[0]? with
    | [x, y], some t => match P.underlying t with
      | some (.int k) => some (.mx k, x, y)
      | _ => none
    | _, _ => none
  | .call { callee := .builtin .min, args, argTypes } =>
    match args.toList, argTypes[0]? with
    | [x, y], some t => match P.underlying t with
      | some (.int k) => some (.mn k, x, y)
      | _ => none
    | _, _ => none
  | _ => none

section
variable {P : Program}

theorem isI_cases {k : IntKind} {v : Value} (h : isI k v) : ∃ n, v = .int k n := by
  cases v with
  | int k' n => exact ⟨n, by simp only [isI] at h; rw [h]⟩
  | _ => exact h.elim
theorem isInt_cases {v : Value} (h : isInt v) : ∃ k n, v = .int k n := by
  cases v with
  | int k' n => exact ⟨k', n, rfl⟩
  | _ => exact h.elim
theorem isB_cases {v : Value} (h : isB v) : ∃ n, v = .bool n := by
  cases v with
  | bool n => exact ⟨n, rfl⟩
  | _ => exact h.elim
theorem isStr_cases {v : Value} (h : isStr v) : ∃ n, v = .string n := by
  cases v with
  | string n => exact ⟨n, rfl⟩
  | _ => exact h.elim
theorem isP_cases {v : Value} (h : isP v) : ∃ n, v = .pointer (some n) := by
  cases v with
  | pointer n => cases n with
    | none => exact h.elim
    | some a => exact ⟨a, rfl⟩
  | _ => exact h.elim
theorem isS_cases {v : Value} (h : isS v) : ∃ a n c, v = .slice a n c := by
  cases v with
  | slice a n c => exact ⟨a, n, c, rfl⟩
  | _ => exact h.elim
theorem isAg_cases {v : Value} (h : isAg v) : ∃ n, v = .agg n := by
  cases v with
  | agg n => exact ⟨n, rfl⟩
  | _ => exact h.elim

theorem eqGuard_int (op : BinOp) (t : TypeId) (x y : Operand) (k k' : IntKind) (a b : Int) (w : World) : (eqGuard op t x y (.int k a) (.int k' b)).run P w = .ok () w := by
  unfold eqGuard; cases op <;> rfl

theorem binOp_int (op : BinOp) (t : TypeId) (k : IntKind) (a b : Int) (w : World) (h : op ≠ .shl ∧ op ≠ .shr) :
    (binOp op t (.int k a) (.int k b)).run P w = (match op with
      | .add | .sub | .mul => Op.intArith op k a b
      | .quo | .rem => Op.intDiv op k a b
      | .and | .or | .xor | .andNot => Op.intBits op k a b
      | _ => Op.intCmp op a b).run P w := by
  cases op <;> simp_all [binOp]

theorem run_bin_int (op : BinOp) (t : TypeId) (x y : Operand) (k : IntKind) (a b : Int) (w : World) (s : Sem Value) (v : Value)
    (hs : (binOp op t (.int k a) (.int k b)).run P w = .ok v w) :
    (do let r ← (do eqGuard op t x y (.int k a) (.int k b); binOp op t (.int k a) (.int k b)); pure (Next.value r) : Sem Next).run P w = .ok (.value v) w := by
  rw [run_bind, run_bind, eqGuard_int]
  simp only [hs, run_pure]

theorem cB_int {op : BinOp} {t : TypeId} {x y : Operand} {k : IntKind} {n : B} {a b : Int} (w : World)
    (hn : (match op with
      | .add => some (B.ar .add k, x, y)
      | .sub => some (.ar .sub k, x, y)
      | .mul => some (.ar .mul k, x, y)
      | .quo => some (.dv false k, x, y)
      | .rem => some (.dv true k, x, y)
      | .and => some (.bt .and k, x, y)
      | .or => some (.bt .or k, x, y)
      | .xor => some (.bt .xor k, x, y)
      | .andNot => some (.bt .andNot k, x, y)
      | .shl => some (.sh true k, x, y)
      | .shr => some (.sh false k, x, y)
      | .eql => some (.cm .eql k, x, y)
      | .neq => some (.cm .neq k, x, y)
      | .lss => some (.cm .lss k, x, y)
      | .leq => some (.cm .leq k, x, y)
      | .gtr => some (.cm .gtr k, x, y)
      | .geq => some (.cm .geq k, x, y)) = some (n, x, y)) (h : op ≠ .shl ∧ op ≠ .shr) (hok : n.ok (.int k a) (.int k b)) :
    (binOp op t (.int k a) (.int k b)).run P w = .ok (n.val (.int k a) (.int k b)) w := by
  rw [binOp_int op t k a b w h]
  cases op <;> simp only [Option.some.injEq, Prod.mk.injEq, and_true] at hn <;> subst hn <;>
    first
    | (exact absurd rfl h.1)
    | (exact absurd rfl h.2)
    | rfl
    | (simp only [B.ok, asI, isI] at hok; simp [Op.intDiv, hok.2, run_pure, B.val, asI])
    | (simp [Op.intCmp, run_pure, B.val, asI, cmpi])


theorem equal_bool {t : TypeId} (hu : P.underlying t = some .bool) (a b : Bool) (w : World) : (Op.equal t (.bool a) (.bool b)).run P w = .ok (a == b) w := by
  unfold Op.equal Op.maxDepth
  rw [Op.equalIn, run_bind, run_underlying hu]
  rfl

theorem run_eqb {t : TypeId} (hu : P.underlying t = some .bool) (x y : Operand) (a b : Bool) (w : World) :
    (do let r ← (do eqGuard .eql t x y (.bool a) (.bool b); binOp .eql t (.bool a) (.bool b)); pure (Next.value r) : Sem Next).run P w = .ok (.value (.bool ((a == b) != false))) w := by
  have e : (eqGuard .eql t x y (.bool a) (.bool b)).run P w = .ok () w := rfl
  rw [run_bind, run_bind, e]
  simp only [binOp, run_bind, equal_bool hu, run_pure]
  cases a <;> cases b <;> rfl
theorem run_neb {t : TypeId} (hu : P.underlying t = some .bool) (x y : Operand) (a b : Bool) (w : World) :
    (do let r ← (do eqGuard .neq t x y (.bool a) (.bool b); binOp .neq t (.bool a) (.bool b)); pure (Next.value r) : Sem Next).run P w = .ok (.value (.bool ((a == b) != true))) w := by
  have e : (eqGuard .neq t x y (.bool a) (.bool b)).run P w = .ok () w := rfl
  rw [run_bind, run_bind, e]
  simp only [binOp, run_bind, equal_bool hu, run_pure]
  cases a <;> cases b <;> rfl
theorem run_eqs (t : TypeId) (x y : Operand) (a b : ByteArray) (w : World) :
    (do let r ← (do eqGuard .eql t x y (.string a) (.string b); binOp .eql t (.string a) (.string b)); pure (Next.value r) : Sem Next).run P w = .ok (.value (.bool ((a.toList == b.toList) != false))) w := by
  have e : (eqGuard .eql t x y (.string a) (.string b)).run P w = .ok () w := rfl
  rw [run_bind, run_bind, e]
  simp only [binOp, Op.stringOp, run_pure, Bool.bne_false]
theorem run_nes (t : TypeId) (x y : Operand) (a b : ByteArray) (w : World) :
    (do let r ← (do eqGuard .neq t x y (.string a) (.string b); binOp .neq t (.string a) (.string b)); pure (Next.value r) : Sem Next).run P w = .ok (.value (.bool ((a.toList == b.toList) != true))) w := by
  have e : (eqGuard .neq t x y (.string a) (.string b)).run P w = .ok () w := rfl
  rw [run_bind, run_bind, e]
  simp only [binOp, Op.stringOp, run_pure, Bool.bne_true]

theorem run_indexAt_slice {t e : TypeId} {i : TypeInfo} (hu : P.underlying t = some (.slice e)) (hi : P.info? e = some i) (x y : Value) (h : (B.ia i.size).ok x y) (w : World) :
    (Instr.indexAt t x y).run P w = .ok ((B.ia i.size).val x y) w := by
  obtain ⟨⟨hx, hy⟩, hs, h0, h1⟩ := h
  obtain ⟨a, n, c, rfl⟩ := isS_cases hx
  obtain ⟨k, j, rfl⟩ := isInt_cases hy
  cases a with
  | none => cases hs
  | some a =>
    simp only [asI, slL] at h0 h1
    simp [Instr.indexAt, run_bind, asIntOf, run_pure, run_underlying hu, h0, h1, run_sizeOf hi, B.val, slB, slA, asI]

theorem run_indexAt_array {t e : TypeId} {n : Nat} {i : TypeInfo} (hu : P.underlying t = some (.array n e)) (hi : P.info? e = some i) (x y : Value) (h : (B.aa n i.size).ok x y) (w : World) :
    (Instr.indexAt t x y).run P w = .ok ((B.aa n i.size).val x y) w := by
  obtain ⟨⟨hx, hy⟩, h0, h1⟩ := h
  obtain ⟨a, rfl⟩ := isP_cases hx
  obtain ⟨k, j, rfl⟩ := isInt_cases hy
  simp only [asI] at h0 h1
  simp [Instr.indexAt, run_bind, asIntOf, run_pure, run_underlying hu, h0, h1, run_sizeOf hi, B.val, asA, asI, Instr.sureAddr]

theorem run_index_arr1 {t e : TypeId} {n : Nat} {i : TypeInfo} {d : TypeDesc} (hu : P.underlying t = some (.array n e)) (hi : P.info? e = some i) (hd : P.underlying e = some d) (hag : isAggD d = false) (x y : Value) (h : (B.ix1 n i.size).ok x y) (w : World) :
    (Instr.index t x y).run P w = .ok ((B.ix1 n i.size).val x y) w := by
  obtain ⟨⟨hx, hy⟩, h0, h1, h2⟩ := h
  obtain ⟨cs, rfl⟩ := isAg_cases hx
  obtain ⟨k, j, rfl⟩ := isInt_cases hy
  simp only [asI, agC] at h0 h1 h2
  simp [Instr.index, run_bind, asIntOf, run_pure, run_underlying hu, h0, h1, run_sizeOf hi, B.val, agC, asI, part, run_isAgg hd, hag, h2]

theorem run_index_arrN {t e : TypeId} {n : Nat} {i : TypeInfo} {d : TypeDesc} (hu : P.underlying t = some (.array n e)) (hi : P.info? e = some i) (hd : P.underlying e = some d) (hag : isAggD d = true) (x y : Value) (h : (B.ixN n i.size).ok x y) (w : World) :
    (Instr.index t x y).run P w = .ok ((B.ixN n i.size).val x y) w := by
  obtain ⟨⟨hx, hy⟩, h0, h1⟩ := h
  obtain ⟨cs, rfl⟩ := isAg_cases hx
  obtain ⟨k, j, rfl⟩ := isInt_cases hy
  simp only [asI] at h0 h1
  simp [Instr.index, run_bind, asIntOf, run_pure, run_underlying hu, h0, h1, run_sizeOf hi, B.val, agC, asI, part, run_isAgg hd, hag]

theorem run_index_str {t : TypeId} (hu : P.underlying t = some .string) (x y : Value) (h : B.ixs.ok x y) (w : World) :
    (Instr.index t x y).run P w = .ok (B.ixs.val x y) w := by
  obtain ⟨⟨hx, hy⟩, h0, h1⟩ := h
  obtain ⟨s, rfl⟩ := isStr_cases hx
  obtain ⟨k, j, rfl⟩ := isInt_cases hy
  simp only [asI, asS] at h0 h1
  have hlt : j.toNat < s.size := by omega
  simp [Instr.index, run_bind, asIntOf, run_pure, run_underlying hu, h0, B.val, asS, asI, hlt]

/-- The operation of a node of two operands yields what the node says, wherever it is carried out. -/
theorem cB_run {o : Oper} {n : B} {x y : Operand} (h : cB P o.op = some (n, x, y)) (ρ : Operand → Value) (hok : n.ok (ρ x) (ρ y)) (w : World) :
    (execOp ρ o).run P w = .ok (.value (n.val (ρ x) (ρ y))) w := by
  obtain ⟨dst, op, ty, pos, af, gd⟩ := o
  simp only [cB] at h
  split at h
  case h_1 op t x' y' ty' =>
    simp only [execOp]
    split at h
    case h_1 k hu =>
      have hxy : x' = x ∧ y' = y := by cases op <;> simp_all
      obtain ⟨rfl, rfl⟩ := hxy
      by_cases hsh : op = .shl ∨ op = .shr
      · rcases hsh with rfl | rfl
        all_goals
          simp only [Option.some.injEq, Prod.mk.injEq, and_true] at h
          subst h
          obtain ⟨⟨h1, h2⟩, h3⟩ := hok
          obtain ⟨a, ha⟩ := isI_cases h1
          obtain ⟨k', b, hb⟩ := isInt_cases h2
          rw [hb] at h3
          simp only [asI] at h3
          rw [ha, hb]
          rw [run_bind, run_bind, eqGuard_int]
          simp [binOp, Op.shift, show ¬ b < 0 by omega, run_pure, B.val, shl, shr, asI]
      · have hk : isI k (ρ x') ∧ isI k (ρ y') := by
          cases op <;> simp_all <;> subst h <;> simp_all [B.ok]
        obtain ⟨a, ha⟩ := isI_cases hk.1
        obtain ⟨b, hb⟩ := isI_cases hk.2
        rw [ha, hb] at hok ⊢
        have hne : op ≠ .shl ∧ op ≠ .shr := ⟨fun e => hsh (.inl e), fun e => hsh (.inr e)⟩
        exact run_bin_int op t x' y' k a b w (binOp op t (.int k a) (.int k b)) _ (cB_int w h hne hok)
    case h_2 hu =>
      split at h
      all_goals first | (cases h; done) | skip
      all_goals
        simp only [Option.some.injEq, Prod.mk.injEq] at h
        obtain ⟨rfl, rfl, rfl⟩ := h
        obtain ⟨h1, h2⟩ := hok
        obtain ⟨a, ha⟩ := isB_cases h1
        obtain ⟨b, hb⟩ := isB_cases h2
        rw [ha, hb]
      · exact run_eqb hu _ _ a b w
      · exact run_neb hu _ _ a b w
    case h_3 hu =>
      split at h
      all_goals first | (cases h; done) | skip
      all_goals
        simp only [Option.some.injEq, Prod.mk.injEq] at h
        obtain ⟨rfl, rfl, rfl⟩ := h
        obtain ⟨h1, h2⟩ := hok
        obtain ⟨a, ha⟩ := isStr_cases h1
        obtain ⟨b, hb⟩ := isStr_cases h2
        rw [ha, hb]
      · exact run_eqs t _ _ a b w
      · exact run_nes t _ _ a b w
    case h_4 => cases h
  case h_2 t x' y' =>
    simp only [execOp]
    split at h
    case h_1 e hu =>
      split at h
      case h_1 i hi =>
        cases h
        rw [run_bind, run_indexAt_slice hu hi _ _ hok]
        rfl
      case h_2 => cases h
    case h_2 nn e hu =>
      split at h
      case h_1 i hi =>
        cases h
        rw [run_bind, run_indexAt_array hu hi _ _ hok]
        rfl
      case h_2 => cases h
    case h_3 => cases h
  case h_3 t x' y' =>
    simp only [execOp]
    split at h
    case h_1 nn e hu =>
      split at h
      case h_1 i d hi hd =>
        split at h
        case isTrue hag =>
          cases h
          rw [run_bind, run_index_arrN hu hi hd hag _ _ hok]
          rfl
        case isFalse hag =>
          cases h
          rw [run_bind, run_index_arr1 hu hi hd (by simpa using hag) _ _ hok]
          rfl
      case h_2 => cases h
    case h_2 hu =>
      cases h
      rw [run_bind, run_index_str hu _ _ hok]
      rfl
    case h_3 => cases h
  case h_4 args argTypes =>
    split at h
    case h_1 x' y' t ha ht =>
      split at h <;> cases h
      have hl : (args.map ρ).toList = [ρ x, ρ y] := by simp [ha]
      obtain ⟨h1, h2⟩ := hok
      obtain ⟨a, ha'⟩ := isI_cases h1
      obtain ⟨b, hb'⟩ := isI_cases h2
      simp only [execOp, resolve, invoke, builtin, run_bind, run_pure, Builtin.max_, hl, List.foldlM, ha', hb', Builtin.max2, B.val, asI]
    case h_2 => cases h
  case h_5 args argTypes =>
    split at h
    case h_1 x' y' t ha ht =>
      split at h <;> cases h
      have hl : (args.map ρ).toList = [ρ x, ρ y] := by simp [ha]
      obtain ⟨h1, h2⟩ := hok
      obtain ⟨a, ha'⟩ := isI_cases h1
      obtain ⟨b, hb'⟩ := isI_cases h2
      simp only [execOp, resolve, invoke, builtin, run_bind, run_pure, Builtin.min_, hl, List.foldlM, ha', hb', Builtin.min2, B.val, asI]
    case h_2 => cases h
  case h_6 => cases h


/-- A node's operands are the operation's. -/
theorem cU_mem {o : Op} {n : U} {x : Operand} (h : cU P o = some (n, x)) : x ∈ o.operands := by
  simp only [cU] at h
  split at h
  all_goals first
    | (cases h; done)
    | (cases h; simp [Op.operands]; done)
    | skip
  all_goals (repeat' (split at h))
  all_goals first
    | (cases h; done)
    | (cases h; simp [Op.operands]; done)
    | (simp only [Option.some.injEq, Prod.mk.injEq] at h
       obtain ⟨_, rfl⟩ := h
       simp only [Op.operands, Call.operands, List.empty_eq, Array.empty_append]
       exact Array.mem_of_getElem? (by assumption))

theorem cB_mem {o : Op} {n : B} {x y : Operand} (h : cB P o = some (n, x, y)) : x ∈ o.operands ∧ y ∈ o.operands := by
  simp only [cB] at h
  split at h
  all_goals first
    | (cases h; done)
    | skip
  all_goals (repeat' (split at h))
  all_goals first
    | (cases h; done)
    | (cases h; simp [Op.operands]; done)
    | (simp only [Option.some.injEq, Prod.mk.injEq] at h
       obtain ⟨_, rfl, rfl⟩ := h
       simp only [Op.operands, Call.operands]
       exact ⟨Array.mem_append.2 (.inr (Array.mem_toList_iff.1 (by simp [*]))), Array.mem_append.2 (.inr (Array.mem_toList_iff.1 (by simp [*])))⟩)

end
end Go.Proofs.Ytgjnfajdejkkjaa.VG

/-! ## VG, part C: regions. One walk in one order serves every order that the edges allow: reads are taken first, under the promise that what changes the world until their turn at the latest leaves their cells. -/
namespace Go.Proofs.Ytgjnfajdejkkjaa.VG
open Go
set_option linter.unusedSimpArgs false
set_option linter.unusedVariables false
set_option maxRecDepth 20000

abbrev Prom := List (Nat × (World → Prop))
def keep (bf : Nat → Nat → Bool) (j : Nat) (Pr : Prom) : Prom := Pr.filter fun p => !bf p.1 j

section
variable {P : Program} {ops : Array Oper} {Q : Exit → Act → World → Prop} {bf : Nat → Nat → Bool}

def wpAnyP (P : Program) (ops : Array Oper) (Q : Exit → Act → World → Prop) (bf : Nat → Nat → Bool) : Nat → Array Bool → Prom → Act → World → Prop
  | 0, listed, Pr, a, w => (∀ p ∈ Pr, p.2 w) ∧ Region.ready .any ops listed = [] ∧ Q .normal a w
  | fuel + 1, listed, Pr, a, w => (∀ p ∈ Pr, p.2 w) ∧ (Region.ready .any ops listed = [] → Q .normal a w) ∧
      ∀ j ∈ Region.ready .any ops listed, wpOp P ops Q j (fun a' w' => wpAnyP P ops Q bf fuel (listed.setIfInBounds j true) (keep bf j Pr) a' w') a w

theorem wpAnyP_prom {fuel : Nat} {listed : Array Bool} {Pr : Prom} {a : Act} {w : World} (h : wpAnyP P ops Q bf fuel listed Pr a w) : ∀ p ∈ Pr, p.2 w := by
  cases fuel with
  | zero => exact h.1
  | succ n => exact h.1

theorem wpAnyP_sub : ∀ {fuel : Nat} {listed : Array Bool} {Pr Pr' : Prom} {a : Act} {w : World}, wpAnyP P ops Q bf fuel listed Pr a w → (∀ p ∈ Pr', p ∈ Pr) →
    wpAnyP P ops Q bf fuel listed Pr' a w
  | 0, _, _, _, _, _, h, hs => ⟨fun p hp => h.1 p (hs p hp), h.2⟩
  | fuel + 1, _, _, _, _, _, h, hs => ⟨fun p hp => h.1 p (hs p hp), h.2.1, fun j hj => wpOp_mono (fun a' w' h' => wpAnyP_sub h' (fun p hp => by
      simp only [keep, List.mem_filter] at hp ⊢
      exact ⟨hs p hp.1, hp.2⟩)) (h.2.2 j hj)⟩

theorem wpAnyP_any : ∀ {fuel : Nat} {listed : Array Bool} {Pr : Prom} {a : Act} {w : World}, wpAnyP P ops Q bf fuel listed Pr a w → wpAny P .any ops Q fuel listed a w
  | 0, _, _, _, _, h => h.2
  | fuel + 1, _, _, _, _, h => ⟨h.2.1, fun j hj => wpOp_mono (fun a' w' h' => wpAnyP_any h') (h.2.2 j hj)⟩

/-- What is listed has all that it waits for listed. -/
def Closed (ops : Array Oper) (listed : Array Bool) : Prop :=
  ∀ (j : Nat) (oj : Oper), ops[j]? = some oj → listed.getD j false = true → ∀ e ∈ oj.after, Region.binds .any e = true → listed.getD e.on false = true

/-- 'bf i j': i comes before j. -/
def BfOk (ops : Array Oper) (bf : Nat → Nat → Bool) : Prop :=
  ∀ i j, bf i j = true → ∃ oj, ops[j]? = some oj ∧ ∃ e ∈ oj.after, Region.binds .any e = true ∧ e.on < j ∧ (e.on = i ∨ bf i e.on = true)

theorem listed_of_bf (hb : BfOk ops bf) {listed : Array Bool} (hc : Closed ops listed) (i : Nat) : ∀ (n j : Nat), j ≤ n → listed.getD j false = true → bf i j = true → listed.getD i false = true := by
  intro n
  induction n with
  | zero =>
    intro j hj hl hbf
    obtain ⟨oj, hoj, e, he, hbind, hlt, h⟩ := hb i j hbf
    omega
  | succ n ih =>
    intro j hj hl hbf
    obtain ⟨oj, hoj, e, he, hbind, hlt, h⟩ := hb i j hbf
    have h1 := hc j oj hoj hl e he hbind
    rcases h with h | h
    · rw [← h]; exact h1
    · exact ih e.on (by omega) h1 h

theorem not_bf_of_ready (hb : BfOk ops bf) {listed : Array Bool} (hc : Closed ops listed) {i j : Nat} (hj : j ∈ Region.ready .any ops listed) (hi : listed.getD i false = false) : bf i j = false := by
  cases hbf : bf i j with
  | false => rfl
  | true =>
    obtain ⟨oj, hoj, e, he, hbind, hlt, h⟩ := hb i j hbf
    obtain ⟨_, oj', hoj', hall⟩ := mem_ready.1 hj
    have : oj' = oj := Option.some.inj (hoj'.symm.trans hoj)
    subst this
    have h1 := hall e he hbind
    rcases h with h | h
    · rw [h, hi] at h1; cases h1
    · have := listed_of_bf hb hc i _ _ (Nat.le_refl _) h1 h
      rw [hi] at this; cases this

theorem getD_mix {listed : Array Bool} {i : Nat} (h : listed.getD i true = false) : listed.getD i false = false := by
  rcases Nat.lt_or_ge i listed.size with h' | h'
  · simp [h'] at h ⊢; exact h
  · simp [Array.getElem?_eq_none h'] at h

theorem Closed.set {listed : Array Bool} (hc : Closed ops listed) {j : Nat} (hj : j ∈ Region.ready .any ops listed) : Closed ops (listed.setIfInBounds j true) := by
  intro k ok hk hl e he hb
  obtain ⟨_, oj, hoj, hall⟩ := mem_ready.1 hj
  by_cases hkj : j = k
  · subst hkj
    have : oj = ok := Option.some.inj (hoj.symm.trans hk)
    subst this
    exact getD_set_true (hall e he hb)
  · rw [getD_set_ne false hkj] at hl
    exact getD_set_true (hc k ok hk hl e he hb)

theorem closed_none (n : Nat) : Closed ops (Array.replicate n false) := by
  intro j oj _ hl
  rcases Nat.lt_or_ge j n with h | h
  · simp [h] at hl
  · simp [h] at hl

theorem take_first {i : Nat} {oi : Oper} {v : Value} {S : World → Prop} (hb : BfOk ops bf) (hi : ops[i]? = some oi) (hsel : ∀ (j : Nat) (o : Oper) cs b, ops[j]? = some o → o.op ≠ .select cs b)
    (hQ : ∀ c a w, Q (.panic c) (a.put oi.dst v) w → Q (.panic c) a w) :
    ∀ (fuel : Nat) (listed : Array Bool) (Pr : Prom) (a : Act) (w : World), Closed ops listed →
      (∀ j oj, ops[j]? = some oj → j ≠ i → listed.getD j true = false → (∀ e ∈ oj.after, Region.binds .any e = true → e.on ≠ i) → oi.apart ops oj = true) →
      i ∈ Region.ready .any ops listed → YieldsIf P ops S oi v a →
      wpAnyP P ops Q bf fuel (listed.setIfInBounds i true) ((i, S) :: Pr) (a.put oi.dst v) w → wpAnyP P ops Q bf (fuel + 1) listed Pr a w := by
  intro fuel
  induction fuel with
  | zero =>
    intro listed Pr a w hc hfree hr hy H
    have hS : S w := wpAnyP_prom H (i, S) (List.mem_cons_self ..)
    refine ⟨fun p hp => wpAnyP_prom H p (List.mem_cons_of_mem _ hp), fun h => (by rw [h] at hr; cases hr), fun j hj => ?_⟩
    by_cases hji : j = i
    · subst hji
      exact hy.wpOp hi hS (wpAnyP_sub H (fun p hp => List.mem_cons_of_mem _ (List.mem_filter.1 hp).1))
    · have := ready_mono hj hji
      rw [H.2.1] at this
      cases this
  | succ fuel ih =>
    intro listed Pr a w hc hfree hr hy H
    have hS : S w := wpAnyP_prom H (i, S) (List.mem_cons_self ..)
    refine ⟨fun p hp => wpAnyP_prom H p (List.mem_cons_of_mem _ hp), fun h => (by rw [h] at hr; cases hr), fun j hj => ?_⟩
    by_cases hji : j = i
    · subst hji
      exact hy.wpOp hi hS (wpAnyP_sub H (fun p hp => List.mem_cons_of_mem _ (List.mem_filter.1 hp).1))
    · have h1 := H.2.2 j (ready_mono hj hji)
      obtain ⟨hjun, oj, hoj, hall⟩ := mem_ready.1 hj
      have hiun : listed.getD i false = false := getD_mix (mem_ready.1 hr).1
      have hnot : ∀ e ∈ oj.after, Region.binds .any e = true → e.on ≠ i := fun e he hb' heq => by
        have h1 := hall e he hb'
        rw [heq, hiun] at h1
        cases h1
      have hbij : bf i j = false := not_bf_of_ready hb hc hj hiun
      have hk : keep bf j ((i, S) :: Pr) = (i, S) :: keep bf j Pr := by simp [keep, hbij]
      rw [hk] at h1
      have h2 := wpOp_putIf hoj (hfree j oj hoj hji hjun hnot) (fun cs b => hsel i oi cs b hi) (fun cs b => hsel j oj cs b hoj) hQ hy h1
      have hfree' : ∀ k ok, ops[k]? = some ok → k ≠ i → (listed.setIfInBounds j true).getD k true = false →
          (∀ e ∈ ok.after, Region.binds .any e = true → e.on ≠ i) → oi.apart ops ok = true := fun k ok hk hki hun hno => by
        refine hfree k ok hk hki ?_ hno
        by_cases hjk : j = k
        · subst hjk; exact hjun
        · rw [getD_set_ne true hjk] at hun; exact hun
      refine wpOp_mono (fun a' w' h3 => ih (listed.setIfInBounds j true) _ a' w' (hc.set hj) hfree' (ready_mono hr (Ne.symm hji)) h3.1 ?_) h2
      rw [Array.setIfInBounds_comm _ _ hji]
      exact h3.2

/-- An order in which the operations are gone through; where several may come next and none can be taken first: each of them. -/
inductive Sched where
  | nil
  | op (i : Nat) (s : Sched)
  | alt (a b : Sched)

def Sched.heads : Sched → List Nat
  | .nil => []
  | .op i _ => [i]
  | .alt a b => a.heads ++ b.heads

def schedOf : List Nat → Sched
  | [] => .nil
  | i :: r => .op i (schedOf r)

/-- The walk in one order. 'q i': operation i only reads. -/
def wpS (P : Program) (ops : Array Oper) (Q : Exit → Act → World → Prop) (bf : Nat → Nat → Bool) (q : Nat → Bool) : Sched → Prom → Act → World → Prop
  | .nil, _, a, w => Q .normal a w
  | .op i rest, Pr, a, w => match ops[i]? with
    | none => False
    | some oi => if q i then ∃ v S, S w ∧ YieldsIf P ops S oi v a ∧ wpS P ops Q bf q rest ((i, S) :: Pr) (a.put oi.dst v) w
      else wpOp P ops Q i (fun a' w' => (∀ p ∈ keep bf i Pr, p.2 w') ∧ wpS P ops Q bf q rest (keep bf i Pr) a' w') a w
  | .alt x y, Pr, a, w => wpS P ops Q bf q x Pr a w ∧ wpS P ops Q bf q y Pr a w

def chkSched (ops : Array Oper) (q : Nat → Bool) : Bool → Sched → Nat → Array Bool → Bool
  | inAlt, .nil, _, listed => !inAlt && (Region.ready .any ops listed).isEmpty
  | _, .op _ _, 0, _ => false
  | inAlt, .op i rest, f + 1, listed => (if inAlt then !q i else if q i then (Region.ready .any ops listed).contains i && Region.free .any ops listed i else Region.ready .any ops listed == [i])
      && chkSched ops q false rest f (listed.setIfInBounds i true)
  | inAlt, .alt a b, f, listed => (inAlt || (!(Region.ready .any ops listed).isEmpty && (Region.ready .any ops listed).all fun j => (a.heads ++ b.heads).contains j)) && chkSched ops q true a f listed && chkSched ops q true b f listed

/-- Under an 'alt' every head is an effect whose rest goes on. -/
theorem alt_head {q : Nat → Bool} : ∀ (x : Sched) (f : Nat) (listed : Array Bool) (Pr : Prom) (a : Act) (w : World), chkSched ops q true x f listed = true → wpS P ops Q bf q x Pr a w → ∀ j ∈ x.heads,
    ∃ f' rest, f = f' + 1 ∧ q j = false ∧ chkSched ops q false rest f' (listed.setIfInBounds j true) = true ∧
      wpOp P ops Q j (fun a' w' => (∀ p ∈ keep bf j Pr, p.2 w') ∧ wpS P ops Q bf q rest (keep bf j Pr) a' w') a w
  | .nil, f, listed, Pr, a, w, hchk, h, j, hj => by simp [Sched.heads] at hj
  | .op i rest, 0, listed, Pr, a, w, hchk, h, j, hj => by simp [chkSched] at hchk
  | .op i rest, f + 1, listed, Pr, a, w, hchk, h, j, hj => by
    simp only [Sched.heads, List.mem_singleton] at hj
    subst hj
    simp only [chkSched, if_true, Bool.and_eq_true, Bool.not_eq_true'] at hchk
    refine ⟨f, rest, rfl, hchk.1, hchk.2, ?_⟩
    simp only [wpS] at h
    cases hi : ops[j]? with
    | none => simp only [hi] at h
    | some oi => simp only [hi, hchk.1, Bool.false_eq_true, if_false] at h; exact h
  | .alt x y, f, listed, Pr, a, w, hchk, h, j, hj => by
    simp only [Sched.heads, List.mem_append] at hj
    simp only [chkSched, Bool.true_or, Bool.true_and, Bool.and_eq_true] at hchk
    rcases hj with hj | hj
    · exact alt_head x f listed Pr a w hchk.1 h.1 j hj
    · exact alt_head y f listed Pr a w hchk.2 h.2 j hj

theorem wpS_any {q : Nat → Bool} (hb : BfOk ops bf) (hsel : Region.noSelect ops = true) (hQ : ∀ (c : List PanicEntry) (a : Act) (w : World), Q (.panic c) a w → False) :
    ∀ (f : Nat) (sched : Sched) (listed : Array Bool) (Pr : Prom) (a : Act) (w : World), chkSched ops q false sched f listed = true → Closed ops listed → (∀ p ∈ Pr, p.2 w) →
      wpS P ops Q bf q sched Pr a w → wpAnyP P ops Q bf f listed Pr a w := by
  intro f
  induction f with
  | zero =>
    intro sched listed Pr a w hchk hc hp h
    cases sched with
    | nil =>
      simp only [chkSched, Bool.not_false, Bool.true_and, List.isEmpty_iff] at hchk
      exact ⟨hp, hchk, h⟩
    | op i rest => simp [chkSched] at hchk
    | alt x y =>
      exfalso
      simp only [chkSched, Bool.false_or, Bool.and_eq_true, Bool.not_eq_true', List.all_eq_true] at hchk
      obtain ⟨⟨⟨hne, hall⟩, h1⟩, h2⟩ := hchk
      cases hr : Region.ready .any ops listed with
      | nil => rw [hr] at hne; simp at hne
      | cons j r =>
        have hj := hall j (by rw [hr]; exact List.mem_cons_self ..)
        have hj' : j ∈ (Sched.alt x y).heads := by simpa [Sched.heads] using hj
        obtain ⟨f', rest, h3, _⟩ := alt_head (P := P) (Q := Q) (bf := bf) (.alt x y) 0 listed Pr a w (by simp [chkSched, h1, h2]) h j hj'
        omega
  | succ f ih =>
    intro sched listed Pr a w hchk hc hp h
    cases sched with
    | nil =>
      simp only [chkSched, Bool.not_false, Bool.true_and, List.isEmpty_iff] at hchk
      exact ⟨hp, fun _ => h, fun j hj => by rw [hchk] at hj; cases hj⟩
    | op i rest =>
      simp only [chkSched, Bool.false_eq_true, if_false, Bool.and_eq_true] at hchk
      simp only [wpS] at h
      cases hi : ops[i]? with
      | none => simp only [hi] at h
      | some oi =>
        simp only [hi] at h
        by_cases hq : q i = true
        · simp only [hq, if_true, Bool.and_eq_true] at h hchk
          obtain ⟨v, S, hS, hy, h⟩ := h
          have hr : i ∈ Region.ready .any ops listed := by simpa using hchk.1.1
          refine take_first hb hi (Region.noSelect_spec hsel) (fun c a w h => (hQ c _ w h).elim) f listed Pr a w hc (Region.free_spec hi hchk.1.2) hr hy ?_
          refine ih rest _ _ _ _ hchk.2 (hc.set hr) ?_ h
          intro p hp'
          rcases List.mem_cons.1 hp' with rfl | hp'
          · exact hS
          · exact hp p hp'
        · have hq' : q i = false := by simpa using hq
          simp only [hq', Bool.false_eq_true, if_false] at h hchk
          have hr : Region.ready .any ops listed = [i] := by simpa using hchk.1
          refine ⟨hp, fun h0 => (by rw [hr] at h0; cases h0), fun j hj => ?_⟩
          have hji : j = i := by rw [hr] at hj; simpa using hj
          subst hji
          exact wpOp_mono (fun a' w' h' => ih rest _ _ _ _ hchk.2 (hc.set hj) h'.1 h'.2) h
    | alt x y =>
      have hchk0 := hchk
      simp only [chkSched, Bool.false_or, Bool.and_eq_true, Bool.not_eq_true', List.all_eq_true] at hchk
      obtain ⟨⟨⟨hne, hall⟩, h1⟩, h2⟩ := hchk
      refine ⟨hp, fun h0 => (by rw [h0] at hne; simp at hne), fun j hj => ?_⟩
      have hj' : j ∈ (Sched.alt x y).heads := by simpa [Sched.heads] using hall j hj
      obtain ⟨f', rest, h3, h5, h6, h7⟩ := alt_head (P := P) (Q := Q) (bf := bf) (.alt x y) (f + 1) listed Pr a w (by simp [chkSched, h1, h2]) h j hj'
      have : f' = f := by omega
      subst this
      exact wpOp_mono (fun a' w' h' => ih rest _ _ _ _ h6 (hc.set hj) h'.1 h'.2) h7

theorem wpS_ops {q : Nat → Bool} : ∀ (sched : List Nat) (Pr : Prom) (a : Act) (w : World), wpS P ops Q bf q (schedOf sched) Pr a w → wpOps P ops Q sched a w
  | [], _, a, w, h => h
  | i :: rest, Pr, a, w, h => by
    rw [wpOps_cons]
    simp only [schedOf, wpS] at h
    cases hi : ops[i]? with
    | none => simp only [hi] at h
    | some oi =>
      simp only [hi] at h
      by_cases hq : q i = true
      · simp only [hq, if_true] at h
        obtain ⟨v, S, hS, hy, h⟩ := h
        exact hy.wpOp hi hS (wpS_ops rest _ _ _ h)
      · have hq' : q i = false := by simpa using hq
        simp only [hq', Bool.false_eq_true, if_false] at h
        exact wpOp_mono (fun a' w' h' => wpS_ops rest _ _ _ h'.2) h

theorem region_plain {q : Nat → Bool} {id : Nat} {a : Act} {w : World} (h : wpS P ops Q bf q (schedOf (List.range ops.size)) [] a w) : (Code.region id ops false).wp P Q a w :=
  wp_region (wpS_ops _ _ _ _ h)

theorem region_draw {q : Nat → Bool} {id : Nat} {a : Act} {w : World} {sched : Sched} (hm : P.follows .mixedOrders = true) (hb : BfOk ops bf) (hsel : Region.noSelect ops = true)
    (hQ : ∀ (c : List PanicEntry) (a : Act) (w : World), Q (.panic c) a w → False) (hchk : chkSched ops q false sched ops.size (Array.replicate ops.size false) = true)
    (h : wpS P ops Q bf q sched [] a { w with drawn := w.drawn + 1 }) : (Code.region id ops true).wp P Q a w := by
  refine wp_region_any hm ?_
  exact wpAnyP_any (wpS_any hb hsel hQ ops.size sched (Array.replicate ops.size false) [] a { w with drawn := w.drawn + 1 } hchk (closed_none _) (by simp) h)

end
end Go.Proofs.Ytgjnfajdejkkjaa.VG

/-! ## VG, part D: expressions and statements, what they come to; the translation of a function's code into them. -/
namespace Go.Proofs.Ytgjnfajdejkkjaa.VG
open Go
set_option linter.unusedSimpArgs false
set_option linter.unusedVariables false
set_option maxRecDepth 20000

abbrev Env := Nat → Value
def upd (env : Env) (x : Nat) (v : Value) : Env := fun y => if y = x then v else env y

inductive E where
  | vr (x : Nat) | cn (val : Value) | un (n : U) (a : E) | bn (n : B) (a b : E)
  | ld (a : E) | ldn (n : Nat) (a : E) | pk (c a b : E) | gd (g : E) (want : Bool) (e : E)
  | and (a b : E) | or (a b : E)
  | sl (size : Nat) (hasHi : Bool) (x lo hi : E)
  | bd (off n : Nat) (part rest : E)

def isBool : Value → Bool → Bool
  | .bool b, want => b == want
  | _, _ => false

def cellsFrom (w : World) (a : Addr) (i : Nat) : Nat → List Value
  | 0 => []
  | n + 1 => (w.cell? (a.add i)).getD undef :: cellsFrom w a (i + 1) n

def putAt (cs : Array Value) (off : Nat) : List Value → Array Value
  | [] => cs
  | v :: r => putAt (cs.setIfInBounds off v) (off + 1) r

def slVal (size : Nat) (x : Value) (l h : Nat) : Value := .slice (if slC x = l then slA x else (slA x).map (·.add (l * size))) (h - l) (slC x - l)

def E.ev : E → Env → World → Value
  | .vr x, env, _ => env x
  | .cn val, _, _ => val
  | .un n a, env, w => n.val (a.ev env w)
  | .bn n a b, env, w => n.val (a.ev env w) (b.ev env w)
  | .ld a, env, w => (w.cell? (asA (a.ev env w))).getD undef
  | .ldn n a, env, w => .agg (cellsFrom w (asA (a.ev env w)) 0 n).toArray
  | .pk c a b, env, w => if asB (c.ev env w) = true then a.ev env w else b.ev env w
  | .gd g want e, env, w => if isBool (g.ev env w) want = true then e.ev env w else undef
  | .and a b, env, w => .bool (asB (a.ev env w) && asB (b.ev env w))
  | .or a b, env, w => .bool (asB (a.ev env w) || asB (b.ev env w))
  | .sl size hasHi x lo hi, env, w => slVal size (x.ev env w) (asI (lo.ev env w)).toNat (if hasHi = true then (asI (hi.ev env w)).toNat else slL (x.ev env w))
  | .bd off _ part rest, env, w => .agg (putAt (agC (rest.ev env w)) off (part.ev env w).cells.toList)

/-- When the topmost node yields what it says. -/
def E.ok : E → Env → World → Prop
  | .un n a, env, w => n.ok (a.ev env w)
  | .bn n a b, env, w => n.ok (a.ev env w) (b.ev env w)
  | .ld a, env, w => isP (a.ev env w) ∧ (w.cell? (asA (a.ev env w))).isSome = true
  | .ldn n a, env, w => isP (a.ev env w) ∧ ∀ j, j < n → (w.cell? ((asA (a.ev env w)).add j)).isSome = true
  | .pk c _ _, env, w => isB (c.ev env w)
  | .and a _, env, w => isB (a.ev env w)
  | .or a _, env, w => isB (a.ev env w)
  | .gd g want e, env, w => isBool (g.ev env w) want = true → e.ok env w
  | .sl _ hasHi x lo hi, env, w => (isS (x.ev env w) ∧ isInt (lo.ev env w)) ∧
      (hasHi = true → isInt (hi.ev env w) ∧ 0 ≤ asI (hi.ev env w) ∧ asI (hi.ev env w) ≤ slC (x.ev env w)) ∧
      0 ≤ asI (lo.ev env w) ∧ asI (lo.ev env w) ≤ (if hasHi = true then ((asI (hi.ev env w)).toNat : Int) else slL (x.ev env w))
  | .bd off n part rest, env, w => ((part.ev env w).cells.size = n ∧ off + n ≤ (agC (rest.ev env w)).size) ∧ rest.ok env w
  | _, _, _ => True

def E.pure : E → Bool
  | .vr _ | .cn _ => true
  | .un _ a => a.pure
  | .bn _ a b => a.pure && b.pure
  | .ld _ | .ldn _ _ => false
  | .pk c a b => c.pure && a.pure && b.pure
  | .gd g _ e => g.pure && e.pure
  | .and a b | .or a b => a.pure && b.pure
  | .sl _ _ x lo hi => x.pure && lo.pure && hi.pure
  | .bd _ _ p r => p.pure && r.pure

def E.ment (t : Nat) : E → Bool
  | .vr x => x == t
  | .cn _ => false
  | .un _ a => a.ment t
  | .bn _ a b => a.ment t || b.ment t
  | .ld a | .ldn _ a => a.ment t
  | .pk c a b => c.ment t || a.ment t || b.ment t
  | .gd g _ e => g.ment t || e.ment t
  | .and a b | .or a b => a.ment t || b.ment t
  | .sl _ _ x lo hi => x.ment t || lo.ment t || hi.ment t
  | .bd _ _ p r => p.ment t || r.ment t

theorem E.ev_upd {t : Nat} {v : Value} {env : Env} {w : World} : ∀ (e : E), e.ment t = false → e.ev (upd env t v) w = e.ev env w
  | .vr x, h => by
    have : x ≠ t := by simpa [E.ment] using h
    simp [E.ev, upd, this]
  | .cn _, _ => rfl
  | .un _ a, h => by simp only [E.ev, ev_upd a h]
  | .bn _ a b, h => by simp only [E.ment, Bool.or_eq_false_iff] at h; simp only [E.ev, ev_upd a h.1, ev_upd b h.2]
  | .ld a, h => by simp only [E.ev, ev_upd a h]
  | .ldn _ a, h => by simp only [E.ev, ev_upd a h]
  | .pk c a b, h => by simp only [E.ment, Bool.or_eq_false_iff] at h; simp only [E.ev, ev_upd c h.1.1, ev_upd a h.1.2, ev_upd b h.2]
  | .gd g _ e, h => by simp only [E.ment, Bool.or_eq_false_iff] at h; simp only [E.ev, ev_upd g h.1, ev_upd e h.2]
  | .and a b, h => by simp only [E.ment, Bool.or_eq_false_iff] at h; simp only [E.ev, ev_upd a h.1, ev_upd b h.2]
  | .or a b, h => by simp only [E.ment, Bool.or_eq_false_iff] at h; simp only [E.ev, ev_upd a h.1, ev_upd b h.2]
  | .sl _ _ x lo hi, h => by simp only [E.ment, Bool.or_eq_false_iff] at h; simp only [E.ev, ev_upd x h.1.1, ev_upd lo h.1.2, ev_upd hi h.2]
  | .bd _ _ p r, h => by simp only [E.ment, Bool.or_eq_false_iff] at h; simp only [E.ev, ev_upd p h.1, ev_upd r h.2]

theorem E.ev_pure {env : Env} {w w' : World} : ∀ (e : E), e.pure = true → e.ev env w' = e.ev env w
  | .vr x, h => rfl
  | .cn _, _ => rfl
  | .un _ a, h => by simp only [E.ev, ev_pure (w := w) (w' := w') a h]
  | .bn _ a b, h => by simp only [E.pure, Bool.and_eq_true] at h; simp only [E.ev, ev_pure (w := w) (w' := w') a h.1, ev_pure (w := w) (w' := w') b h.2]
  | .ld a, h => by simp [E.pure] at h
  | .ldn _ a, h => by simp [E.pure] at h
  | .pk c a b, h => by simp only [E.pure, Bool.and_eq_true] at h; simp only [E.ev, ev_pure (w := w) (w' := w') c h.1.1, ev_pure (w := w) (w' := w') a h.1.2, ev_pure (w := w) (w' := w') b h.2]
  | .gd g _ e, h => by simp only [E.pure, Bool.and_eq_true] at h; simp only [E.ev, ev_pure (w := w) (w' := w') g h.1, ev_pure (w := w) (w' := w') e h.2]
  | .and a b, h => by simp only [E.pure, Bool.and_eq_true] at h; simp only [E.ev, ev_pure (w := w) (w' := w') a h.1, ev_pure (w := w) (w' := w') b h.2]
  | .or a b, h => by simp only [E.pure, Bool.and_eq_true] at h; simp only [E.ev, ev_pure (w := w) (w' := w') a h.1, ev_pure (w := w) (w' := w') b h.2]
  | .sl _ _ x lo hi, h => by simp only [E.pure, Bool.and_eq_true] at h; simp only [E.ev, ev_pure (w := w) (w' := w') x h.1.1, ev_pure (w := w) (w' := w') lo h.1.2, ev_pure (w := w) (w' := w') hi h.2]
  | .bd _ _ p r, h => by simp only [E.pure, Bool.and_eq_true] at h; simp only [E.ev, ev_pure (w := w) (w' := w') p h.1, ev_pure (w := w) (w' := w') r h.2]

/-! ### What is known of an expression without looking at the state -/
def boolE : E → Bool
  | .cn (.bool _) => true
  | .un .not _ | .un (.pnil _) _ | .un (.snil _) _ => true
  | .bn (.cm ..) _ _ | .bn (.eqb _) _ _ | .bn (.eqs _) _ _ => true
  | .and _ _ | .or _ _ => true
  | _ => false

def intE (k : IntKind) : E → Bool
  | .cn (.int k' _) => k' == k
  | .un (.neg k') _ | .un (.cpl k') _ | .un (.cv k') _ => k' == k
  | .un .ln _ | .un .cp _ | .un .lnS _ | .un (.kst _) _ => k == .i64
  | .bn (.ar _ k') _ _ | .bn (.dv _ k') _ _ | .bn (.bt _ k') _ _ | .bn (.sh _ k') _ _ | .bn (.mx k') _ _ | .bn (.mn k') _ _ => k' == k
  | .bn .ixs _ _ => k == .u8
  | _ => false

def anyIntE (e : E) : Bool := [IntKind.i8, .i16, .i32, .i64, .u8, .u16, .u32, .u64].any fun k => intE k e

theorem boolE_ok {e : E} (h : boolE e = true) (env : Env) (w : World) : e.ev env w = .bool (asB (e.ev env w)) := by
  unfold boolE at h
  split at h <;> first | (cases h; done) | rfl

theorem intE_ok {k : IntKind} {e : E} (h : intE k e = true) (env : Env) (w : World) : isI k (e.ev env w) := by
  unfold intE at h
  split at h
  all_goals first
    | (cases h; done)
    | (simp only [beq_iff_eq] at h; subst h; rfl)
    | (simp only [beq_iff_eq] at h; subst h; rename_i r k' a b; cases r <;> rfl)
    | (simp only [beq_iff_eq] at h; subst h; simp only [E.ev]; unfold B.val; split <;> simp_all [isI])

theorem isInt_of_isI {k : IntKind} {v : Value} (h : isI k v) : isInt v := by
  obtain ⟨n, rfl⟩ := isI_cases h; trivial

theorem anyIntE_ok {e : E} (h : anyIntE e = true) (env : Env) (w : World) : isInt (e.ev env w) := by
  unfold anyIntE at h
  obtain ⟨k, _, hk⟩ := List.any_eq_true.1 h
  exact isInt_of_isI (intE_ok hk env w)

/-- The topmost node always yields what it says: nothing is asked. -/
def triv : E → Bool
  | .vr _ | .cn _ => true
  | .un .not a => boolE a
  | .un (.neg k) a | .un (.cpl k) a => intE k a
  | .un (.cv _) a => anyIntE a
  | .un (.kst _) _ => true
  | .bn (.ar _ k) a b | .bn (.bt _ k) a b | .bn (.cm _ k) a b | .bn (.mx k) a b | .bn (.mn k) a b => intE k a && intE k b
  | .bn (.dv _ k) a (.cn (.int k' n)) => intE k a && k' == k && n != 0
  | .bn (.sh _ k) a (.cn (.int _ n)) => intE k a && decide (0 ≤ n)
  | .bn (.eqb _) a b => boolE a && boolE b
  | .pk c _ _ => boolE c
  | .and a _ | .or a _ => boolE a
  | .gd _ _ e => triv e
  | _ => false

theorem triv_ok : ∀ {e : E}, triv e = true → ∀ (env : Env) (w : World), e.ok env w := by
  intro e
  induction e with
  | gd g want e _ ih => intro h env w _; exact ih h env w
  | vr _ => intro _ _ _; trivial
  | cn _ => intro _ _ _; trivial
  | pk c a b _ _ _ => intro h env w; simp only [triv] at h; simp only [E.ok]; rw [boolE_ok h]; trivial
  | and a b _ _ => intro h env w; simp only [triv] at h; simp only [E.ok]; rw [boolE_ok h]; trivial
  | or a b _ _ => intro h env w; simp only [triv] at h; simp only [E.ok]; rw [boolE_ok h]; trivial
  | ld a _ => intro h; simp [triv] at h
  | ldn n a _ => intro h; simp [triv] at h
  | sl s hh x lo hi _ _ _ => intro h; simp [triv] at h
  | bd o n p r _ _ => intro h; simp [triv] at h
  | un n a _ =>
    intro h env w
    cases n <;> simp only [triv] at h <;> first | (cases h; done) | skip
    · simp only [E.ok, U.ok]; rw [boolE_ok h]; trivial
    · exact intE_ok h env w
    · exact intE_ok h env w
    · exact anyIntE_ok h env w
    · trivial
  | bn n a b _ _ =>
    intro h env w
    unfold triv at h
    split at h <;> first | (cases h; done) | skip
    all_goals (rename_i heq; cases heq)
    all_goals simp only [Bool.and_eq_true, beq_iff_eq, bne_iff_ne, decide_eq_true_eq] at h
    · exact ⟨intE_ok h.1 env w, intE_ok h.2 env w⟩
    · exact ⟨intE_ok h.1 env w, intE_ok h.2 env w⟩
    · exact ⟨intE_ok h.1 env w, intE_ok h.2 env w⟩
    · exact ⟨intE_ok h.1 env w, intE_ok h.2 env w⟩
    · exact ⟨intE_ok h.1 env w, intE_ok h.2 env w⟩
    · exact ⟨⟨intE_ok h.1.1 env w, h.1.2⟩, h.2⟩
    · exact ⟨⟨intE_ok h.1 env w, trivial⟩, h.2⟩
    · refine ⟨?_, ?_⟩
      · rw [boolE_ok h.1]; trivial
      · rw [boolE_ok h.2]; trivial

end Go.Proofs.Ytgjnfajdejkkjaa.VG

/-! ## VG, part E: what an operation's expression is, and that the operation yields it. -/
namespace Go.Proofs.Ytgjnfajdejkkjaa.VG
open Go
set_option linter.unusedSimpArgs false
set_option linter.unusedVariables false
set_option maxRecDepth 20000

/-- A temporary that the region has written: its expression; the guard under which it was written (a temporary, the outcome wanted, that temporary's expression). -/
structure Ent where
  t : Nat
  e : E
  g : Option (Nat × Bool)
  ge : E

def rd (lv : List Nat) (m : List Ent) (cur ext : Option (Nat × Bool)) : Operand → Option E
  | .const v => some (.cn v)
  | .global g => some (.cn (.pointer (some ⟨g, 0, none⟩)))
  | .func f => some (.cn (.func (.func f) #[] #[]))
  | .tmp t => if lv.contains t then some (.vr t) else match m.find? (fun en => en.t == t) with
    | none => none
    | some en => match en.g with
      | none => some en.e
      | some (tg, want) => if cur == some (tg, want) || ext == some (tg, want) then some en.e else some (.gd en.ge want en.e)

def opInst (t : Operand) : Option Nat := match t with | .tmp t => some t | _ => none

/-- The parts of a composite value, laid into its zero value one after the other. -/
def bdE (place : Nat → Option (Nat × Nat)) (R : Operand → Option E) : E → List (Nat × Operand) → Option E
  | acc, [] => some acc
  | acc, (i, x) :: r => match place i, R x with
    | some (off, n), some e => bdE place R (.bd off n e acc) r
    | _, _ => none

def placesOf (P : Program) : List Field → Option (List (Nat × Nat))
  | [] => some []
  | f :: r => match P.info? f.type, placesOf P r with
    | some i, some l => some ((f.offset, i.size) :: l)
    | _, _ => none

def mkPk (c a b : E) : E :=
  match a, b with
  | .cn (.bool true), b' => if boolE b' then .or c b' else .pk c a b
  | a', .cn (.bool false) => if boolE a' then .and c a' else .pk c a b
  | _, _ => .pk c a b

/-- The expression of an operation that only reads. -/
def cE (P : Program) (R : Operand → Option E) (o : Op) : Option E :=
  match o with
  | .move x => R x
  | .assign x => R x
  | .load t x => match P.underlying t, P.info? t, R x with
    | some d, some i, some e => if isAggD d then some (.ldn i.size e) else some (.ld e)
    | _, _, _ => none
  | .slice t x lo hi none => match P.underlying t with
    | some (.slice el) => match P.info? el, R x, (match lo with | none => some (E.cn (.int .i64 0)) | some y => R y), (match hi with | none => some (E.cn undef) | some y => R y) with
      | some i, some ex, some el, some eh => some (.sl i.size hi.isSome ex el eh)
      | _, _, _, _ => none
    | _ => none
  | .build t parts => match P.info? t, P.underlying t with
    | some i, some (.struct fs) => match i.zero, placesOf P fs.toList with
      | some z, some pl => bdE (pl[·]?) R (.cn (.agg z.cells)) parts.toList
      | _, _ => none
    | some i, some (.array _ el) => match i.zero, P.info? el with
      | some z, some j => bdE (fun k => some (k * j.size, j.size)) R (.cn (.agg z.cells)) parts.toList
      | _, _ => none
    | _, _ => none
  | o => match cU P o with
    | some (n, x) => (R x).map (.un n)
    | none => match cB P o with
      | some (n, x, y) => match R x, R y with
        | some a, some b => some (.bn n a b)
        | _, _ => none
      | none => none

def isLoadOp : Op → Bool
  | .load _ _ => true
  | _ => false

def isMv : Op → Bool
  | .move _ | .assign _ => true
  | _ => false

/-- An operation whose result hangs on its operands alone, or that reads memory and does nothing else. -/
def quietOp (P : Program) : Op → Bool
  | .move _ | .assign _ | .pick .. | .load .. | .build .. => true
  | .slice t _ _ _ none => match P.underlying t with | some (.slice _) => true | _ => false
  | o => (cU P o).isSome || (cB P o).isSome

section
variable {P : Program}

/-- The cells that a read reads, as they are in w. -/
def SameCells (a : Addr) (n : Nat) (w w' : World) : Prop := ∀ j, j < n → w'.cell? (a.add j) = w.cell? (a.add j)

/-- What must not change for the expression's topmost node to yield what it does in w. -/
def Holds1 (e : E) (env : Env) (w w' : World) : Prop :=
  match e with
  | .ld a => SameCells (asA (a.ev env w)) 1 w w'
  | .ldn n a => SameCells (asA (a.ev env w)) n w w'
  | _ => True

theorem Holds1.refl (e : E) (env : Env) (w : World) : Holds1 e env w w := by
  unfold Holds1; split <;> first | trivial | (intro j _; rfl)

theorem add_zero (a : Addr) : a.add 0 = a := by simp [Addr.add]

theorem run_load {a : Addr} {v : Value} {w : World} (h : w.cell? a = some v) : (load a).run P w = .ok v w := by
  simp [load, Sem.run, h]

theorem run_loadCellsFrom (a : Addr) (w0 w : World) : ∀ (n i : Nat) (acc : Array Value), (∀ j, i ≤ j → j < i + n → (w0.cell? (a.add j)).isSome = true ∧ w.cell? (a.add j) = w0.cell? (a.add j)) →
    (loadCellsFrom a i n acc).run P w = .ok (acc ++ (cellsFrom w0 a i n).toArray) w := by
  intro n
  induction n with
  | zero => intro i acc h; simp [loadCellsFrom, cellsFrom, run_pure]
  | succ n ih =>
    intro i acc h
    obtain ⟨h1, h2⟩ := h i (Nat.le_refl _) (by omega)
    obtain ⟨v, hv⟩ := Option.isSome_iff_exists.1 h1
    rw [loadCellsFrom, run_bind, run_load (h2.trans hv)]
    simp only []
    rw [ih (i + 1) (acc.push v) (fun j h3 h4 => h j (by omega) (by omega))]
    simp [cellsFrom, hv]

theorem run_sliceBound (v : Value) (y : Nat) (c : BoundsCode) (w : World) (h : isInt v) (h0 : 0 ≤ asI v) (h1 : asI v ≤ y) :
    (Instr.sliceBound v y c).run P w = .ok (asI v).toNat w := by
  obtain ⟨k, n, rfl⟩ := isInt_cases h
  simp only [asI] at h0 h1
  simp [Instr.sliceBound, run_bind, asIntOf, run_pure, h0, h1, asI]

theorem zip_fold (off : Nat) : ∀ (l : List Value) (k : Nat) (cs : Array Value), (l.zipIdx k).foldl (fun cs (p : Value × Nat) => cs.setIfInBounds (off + p.2) p.1) cs = putAt cs (off + k) l
  | [], _, _ => rfl
  | v :: r, k, cs => by
    simp only [List.zipIdx_cons, List.foldl_cons, putAt]
    rw [zip_fold off r (k + 1)]
    rfl

theorem size_putAt : ∀ (l : List Value) (cs : Array Value) (off : Nat), (putAt cs off l).size = cs.size
  | [], _, _ => rfl
  | v :: r, cs, off => by rw [putAt, size_putAt r]; simp

theorem fill_bdE {place : Nat → Option (Nat × Nat)} {R : Operand → Option E} {ρ : Operand → Value} {env : Env} {w : World} : ∀ (parts : List (Nat × Operand)) (acc e : E) (cs : Array Value),
    bdE place R acc parts = some e → acc.ev env w = .agg cs → (∀ p ∈ parts, ∀ ex, R p.2 = some ex → ρ p.2 = ex.ev env w) → e.ok env w →
    ∃ cs', e.ev env w = .agg cs' ∧ Instr.fill place cs (parts.map fun p => (p.1, ρ p.2)) = some cs' ∧ acc.ok env w
  | [], acc, e, cs, h, ha, _, hok => by
    simp only [bdE, Option.some.injEq] at h
    subst h
    exact ⟨cs, ha, rfl, hok⟩
  | (i, x) :: r, acc, e, cs, h, ha, hR, hok => by
    simp only [bdE] at h
    split at h
    case h_1 off n ex hp hx =>
      have hv := hR (i, x) (List.mem_cons_self ..) ex hx
      obtain ⟨cs', h1, h2, h3⟩ := fill_bdE r (.bd off n ex acc) e (putAt cs off (ex.ev env w).cells.toList) h (by simp [E.ev, ha, agC])
        (fun p hp => hR p (List.mem_cons_of_mem _ hp)) hok
      simp only [E.ok, ha, agC] at h3
      refine ⟨cs', h1, ?_, h3.2⟩
      simp only [List.map_cons, Instr.fill, hp, hv]
      rw [if_neg (by simp [h3.1.1]; omega), ← h2]
      congr 1
      rw [← Array.foldl_toList, Array.toList_zipIdx, zip_fold]
      rfl
    case h_2 => cases h

theorem bdE_ag {place : Nat → Option (Nat × Nat)} {R : Operand → Option E} : ∀ (parts : List (Nat × Operand)) (acc e : E), bdE place R acc parts = some e → (∃ cs, acc = .cn (.agg cs)) ∨ (∃ o n p r, acc = .bd o n p r) →
    (∃ cs, e = .cn (.agg cs)) ∨ (∃ o n p r, e = .bd o n p r)
  | [], acc, e, h, ha => by simp only [bdE, Option.some.injEq] at h; subst h; exact ha
  | (i, x) :: r, acc, e, h, ha => by
    simp only [bdE] at h
    split at h
    · exact bdE_ag r _ e h (.inr ⟨_, _, _, _, rfl⟩)
    · cases h

theorem map_bind_push (bs : Array (Nat × Nat)) (f : Field) : (bs.push <$> (do let s ← sizeOf f.type; pure (f.offset, s)) : Sem (Array (Nat × Nat))) = (do let s ← sizeOf f.type; pure (bs.push (f.offset, s))) := by
  rw [map_eq_pure_bind, bind_assoc]
  congr 1

theorem run_places (P : Program) : ∀ (fs : List Field) (pl : List (Nat × Nat)) (acc : Array (Nat × Nat)) (w : World), placesOf P fs = some pl →
    (fs.foldlM (fun (acc : Array (Nat × Nat)) f => do let s ← sizeOf f.type; pure (acc.push (f.offset, s)) : Array (Nat × Nat) → Field → Sem (Array (Nat × Nat))) acc).run P w = .ok (acc ++ pl.toArray) w
  | [], pl, acc, w, h => by
    simp only [placesOf, Option.some.injEq] at h
    subst h
    simp [run_pure]
  | f :: r, pl, acc, w, h => by
    simp only [placesOf] at h
    split at h
    case h_1 i l hi hl =>
      cases h
      simp only [List.foldlM_cons, run_bind, run_sizeOf hi, run_pure]
      rw [run_places P r l _ w hl]
      simp
    case h_2 => cases h

/-- THE READ-ONLY OPERATION YIELDS ITS EXPRESSION'S VALUE, in every world in which the cells that it reads are as they are here. -/
theorem cE_run {o : Oper} {e : E} {R : Operand → Option E} (h : cE P R o.op = some e) (ρ : Operand → Value) (env : Env) (w : World) (hc : ∀ v, ρ (.const v) = v)
    (hR : ∀ x ex, R x = some ex → x ∈ o.op.operands → ρ x = ex.ev env w) (hok : isMv o.op = true ∨ e.ok env w) (w' : World) (hw : Holds1 e env w w') :
    (execOp ρ o).run P w' = .ok (.value (e.ev env w)) w' := by
  have hops : ∀ op', o.op = op' → ∀ x ex, R x = some ex → x ∈ op'.operands → ρ x = ex.ev env w := fun op' e' x ex h1 h2 => hR x ex h1 (e' ▸ h2)
  obtain ⟨dst, op, ty, pos, af, gd⟩ := o
  simp only [cE] at h
  split at h
  case h_1 x =>
    have := hops _ rfl x e h (by simp [Op.operands])
    simp [execOp, run_pure, this]
  case h_2 x =>
    have := hops _ rfl x e h (by simp [Op.operands])
    simp [execOp, run_pure, this]
  case h_3 t x =>
    replace hok := hok.resolve_left (by simp [isMv])
    split at h
    case h_1 d i ex hd hi hx =>
      have hv := hops _ rfl x ex hx (by simp [Op.operands])
      split at h
      case isTrue hag =>
        cases h
        obtain ⟨h1, h2⟩ := hok
        obtain ⟨a, ha⟩ := isP_cases h1
        simp only [Holds1] at hw
        simp only [ha, asA] at h2 hw
        simp only [execOp, hv, ha, Instr.loadAt, Instr.sureAddr, run_bind, run_pure, loadVar, run_isAgg hd, hag, if_true, run_sizeOf hi, loadCells, E.ev, asA]
        rw [run_loadCellsFrom a w w' i.size 0 #[] (fun j _ hj => ⟨h2 j (by omega), hw j (by omega)⟩)]
        simp
      case isFalse hag =>
        cases h
        obtain ⟨h1, h2⟩ := hok
        obtain ⟨a, ha⟩ := isP_cases h1
        simp only [Holds1] at hw
        simp only [ha, asA] at h2 hw
        have h3 := hw 0 (by omega)
        rw [add_zero] at h3
        obtain ⟨v, hv'⟩ := Option.isSome_iff_exists.1 h2
        simp only [execOp, hv, ha, Instr.loadAt, Instr.sureAddr, run_bind, run_pure, loadVar, run_isAgg hd, hag, E.ev, asA, Bool.false_eq_true, if_false, run_load (h3.trans hv'), hv', Option.getD_some]
    case h_2 => cases h
  case h_4 t x lo hi =>
    replace hok := hok.resolve_left (by simp [isMv])
    split at h
    case h_1 el hu =>
      split at h
      case h_1 i ex el' eh hi' hx hlo hhi =>
        cases h
        have hv := hops _ rfl x ex hx (by simp [Op.operands])
        obtain ⟨⟨h1, h2⟩, h3, h4, h5⟩ := hok
        obtain ⟨a, n, c, ha⟩ := isS_cases h1
        simp only [ha, slC, slL] at h3 h5
        have hrun : (Instr.sliceBounds true n c (lo.map ρ) (hi.map ρ) none).run P w' = .ok ((asI (el'.ev env w)).toNat, (if hi.isSome = true then (asI (eh.ev env w)).toNat else n), c) w' := by
          cases hi with
          | none =>
            simp only [Option.isSome_none, Bool.false_eq_true, if_false] at h5 ⊢
            cases lo with
            | none =>
              cases hlo
              simp [Instr.sliceBounds, run_bind, run_pure, E.ev, asI]
            | some y =>
              have hy := hops _ rfl y el' hlo (by simp [Op.operands])
              simp only [Instr.sliceBounds, run_bind, run_pure, Option.map_some, Option.map_none, hy]
              rw [run_sliceBound _ n _ w' h2 h4 h5]
          | some z =>
            have hz := hops _ rfl z eh hhi (by cases lo <;> simp [Op.operands])
            obtain ⟨h6, h7, h8⟩ := h3 rfl
            simp only [Option.isSome_some, if_true] at h5 ⊢
            cases lo with
            | none =>
              cases hlo
              simp only [Instr.sliceBounds, run_bind, run_pure, Option.map_some, Option.map_none, hz]
              rw [run_sliceBound _ c _ w' h6 h7 h8]
              simp [run_pure, E.ev, asI]
            | some y =>
              have hy := hops _ rfl y el' hlo (by simp [Op.operands])
              simp only [Instr.sliceBounds, run_bind, run_pure, Option.map_some, Option.map_none, hz, hy]
              rw [run_sliceBound _ c _ w' h6 h7 h8]
              simp only []
              rw [run_sliceBound _ _ _ w' h2 h4 h5]
        simp only [execOp, hv, ha, Instr.sliceAt, run_bind, run_underlying hu, Instr.slice, Option.map_none, hrun, run_sizeOf hi', run_pure, E.ev, slVal, slC, slA, slL]
      case h_2 => cases h
    case h_2 => cases h
  case h_5 t parts =>
    replace hok := hok.resolve_left (by simp [isMv])
    have hop : ∀ p ∈ parts.toList, ∀ ex, R p.2 = some ex → ρ p.2 = ex.ev env w := fun p hp ex hx =>
      hops _ rfl p.2 ex hx (by simp only [Op.operands]; exact List.mem_toArray.2 (List.mem_map.2 ⟨p, hp, rfl⟩))
    have hmap : (parts.map fun (q : Nat × Operand) => (q.1, ρ q.2)).toList = parts.toList.map fun p => (p.1, ρ p.2) := by simp
    split at h
    case h_1 i fs hi hu =>
      split at h
      case h_1 z pl hz hpl =>
        obtain ⟨cs', h1, h2, _⟩ := fill_bdE parts.toList _ e z.cells h rfl hop hok
        have hpm : (fs.mapM (fun f => do let s ← sizeOf f.type; pure (f.offset, s) : Field → Sem (Nat × Nat))).run P w' = .ok pl.toArray w' := by
          rw [Array.mapM_eq_foldlM, ← Array.foldlM_toList]
          have := run_places P fs.toList pl #[] w' hpl
          rw [Array.empty_append] at this
          rw [← this]
          congr 2
          funext bs f
          exact map_bind_push bs f
        simp only [execOp, Instr.build, run_bind, run_zeroValue hi hz, run_underlying hu]
        rw [hpm]
        simp only [List.getElem?_toArray]
        rw [hmap, h2]
        simp only [run_pure, h1]
      case h_2 => cases h
    case h_2 i nn el hi hu =>
      split at h
      case h_1 z j hz hj =>
        obtain ⟨cs', h1, h2, _⟩ := fill_bdE parts.toList _ e z.cells h rfl hop hok
        simp only [execOp, Instr.build, run_bind, run_zeroValue hi hz, run_underlying hu, run_sizeOf hj]
        rw [hmap, h2]
        simp only [run_pure, h1]
      case h_2 => cases h
    case h_3 => cases h
  case h_6 hm1 hm2 _ _ _ =>
    replace hok := hok.resolve_left (by cases op <;> first | (simp [isMv]; done) | exact (hm1 _ rfl).elim | exact (hm2 _ rfl).elim)
    split at h
    case h_1 n x hcu =>
      cases hx : R x with
      | none => simp [hx] at h
      | some ex =>
        simp only [hx, Option.map_some, Option.some.injEq] at h
        subst h
        have hv := hops _ rfl x ex hx (cU_mem hcu)
        have := cU_run (o := ⟨dst, op, ty, pos, af, gd⟩) hcu ρ hc (by rw [hv]; exact hok) w'
        rw [this, hv]
        rfl
    case h_2 hcu =>
      split at h
      case h_1 n x y hcb =>
        split at h
        case h_1 a b ha hb =>
          cases h
          have hm := cB_mem hcb
          have hv1 := hops _ rfl x a ha hm.1
          have hv2 := hops _ rfl y b hb hm.2
          have := cB_run (o := ⟨dst, op, ty, pos, af, gd⟩) hcb ρ (by rw [hv1, hv2]; exact hok) w'
          rw [this, hv1, hv2]
          rfl
        case h_2 => cases h
      case h_2 => cases h

end
end Go.Proofs.Ytgjnfajdejkkjaa.VG

/-! ## VG, part F: statements, what they come to ('S.wp'), and the translation of a region into them. -/
namespace Go.Proofs.Ytgjnfajdejkkjaa.VG
open Go
set_option linter.unusedSimpArgs false
set_option linter.unusedVariables false
set_option maxRecDepth 20000

/-- A read that an effect must leave as it is: its address, how many cells, under which guard it is done at all. -/
structure PrE where
  i : Nat
  a : E
  n : Nat
  g : Option (E × Bool)

inductive S where
  | nil
  | chk (e : E) (k : S)
  | set (x : Nat) (e : E) (k : S)
  | draw (k : S)
  | call (dst : Option Nat) (f : FuncId) (args : List E) (pr : List PrE) (k : S)
  | st (n : Nat) (a e : E) (pr : List PrE) (k : S)
  | op (dst : Option Nat) (o : Op) (ty : TypeId) (m : List (Nat × E)) (pr : List PrE) (k : S)
  | ifg (g : E) (want : Bool) (a b k : S)
  | alt (a b : S)
  | sq (a k : S)
  | ite (c : E) (a b k : S)
  | blk (id : Nat) (a k : S)
  | loop (a : S)
  | exit (id : Nat)
  | ret

def updo (env : Env) (x : Option Nat) (v : Value) : Env := match x with | some x => upd env x v | none => env

def promOk (p : PrE) (env : Env) (w w' : World) : Prop :=
  (match p.g with | none => True | some (ge, want) => isBool (ge.ev env w) want = true) → SameCells (asA (p.a.ev env w)) p.n w w'

def promsOk : List PrE → Env → World → World → Prop
  | [], _, _, _ => True
  | p :: r, env, w, w' => promOk p env w w' ∧ promsOk r env w w'

/-- What the operands of a general operation hold. -/
def rhoOf (m : List (Nat × E)) (env : Env) (w : World) : Operand → Value
  | .const v => v
  | .global g => .pointer (some ⟨g, 0, none⟩)
  | .func f => .func (.func f) #[] #[]
  | .tmp t => match m.find? (fun p => p.1 == t) with | some p => p.2.ev env w | none => undef

def opOf (o : Op) (ty : TypeId) : Oper := { dst := none, op := o, type := ty, pos := "", after := #[], guard := none }

def uponK (P : Program) (K : Value → World → Prop) : Result Next → Prop
  | .ok (.value v) w => K v w
  | .ok .skip w => K undef w
  | .ok (.enter f args) w => Calls P f args w fun e w' => ∃ v, e = .returned v ∧ K v w'
  | _ => False

def thn (K : Env → World → Prop) (Q : Exit → Env → World → Prop) : Exit → Env → World → Prop
  | .normal, env, w => K env w
  | x, env, w => Q x env w

def inBlk (id : Nat) (K : Env → World → Prop) (Q : Exit → Env → World → Prop) : Exit → Env → World → Prop
  | .normal, env, w => K env w
  | .exit i, env, w => if i = id then K env w else Q (.exit i) env w
  | x, env, w => Q x env w

def evs (l : List E) (env : Env) (w : World) : List Value := l.map fun e => e.ev env w

def one1 : Value → Bool
  | .agg _ | .tuple _ => false
  | _ => true

def putCells (w : World) (a : Addr) (i : Nat) : List Value → World
  | [] => w
  | v :: r => putCells (w.setCell (a.add i) v) a (i + 1) r

/-- The store of n cells. -/
def storeWp (n : Nat) (a v : Value) (w : World) (K : World → Prop) : Prop :=
  isP a ∧ v.cells.size = n ∧ (∀ j, j < n → (w.cell? ((asA a).add j)).isSome = true ∧ w.frozen? ((asA a).add j) = false) ∧ (∀ x ∈ v.cells.toList, one1 x = true) ∧
  K (putCells w (asA a) 0 v.cells.toList)

def S.wp (P : Program) : S → (Exit → Env → World → Prop) → Env → World → Prop
  | .nil, Q, env, w => Q .normal env w
  | .chk e k, Q, env, w => e.ok env w ∧ k.wp P Q env w
  | .set x e k, Q, env, w => k.wp P Q (upd env x (e.ev env w)) w
  | .draw k, Q, env, w => k.wp P Q env w.drew
  | .call dst f args pr k, Q, env, w => Calls P f (evs args env w).toArray w fun e w' => ∃ v, e = .returned v ∧ promsOk pr env w w' ∧ k.wp P Q (updo env dst v) w'
  | .st n a e pr k, Q, env, w => storeWp n (a.ev env w) (e.ev env w) w fun w' => promsOk pr env w w' ∧ k.wp P Q env w'
  | .op dst o ty m pr k, Q, env, w => uponK P (fun v w' => promsOk pr env w w' ∧ k.wp P Q (updo env dst v) w') ((execOp (rhoOf m env w) (opOf o ty)).run P w)
  | .ifg g want a b k, Q, env, w => (isBool (g.ev env w) want = true → a.wp P (thn (k.wp P Q) Q) env w) ∧ (isBool (g.ev env w) want = false → b.wp P (thn (k.wp P Q) Q) env w)
  | .alt a b, Q, env, w => a.wp P Q env w ∧ b.wp P Q env w
  | .sq a k, Q, env, w => a.wp P (thn (k.wp P Q) Q) env w
  | .ite c a b k, Q, env, w => isB (c.ev env w) ∧ (asB (c.ev env w) = true → a.wp P (thn (k.wp P Q) Q) env w) ∧ (asB (c.ev env w) = false → b.wp P (thn (k.wp P Q) Q) env w)
  | .blk id a k, Q, env, w => a.wp P (inBlk id (k.wp P Q) Q) env w
  | .loop a, Q, env, w => ∃ (I : Nat → Env → World → Prop) (n : Nat), I n env w ∧ ∀ n env w, I n env w → a.wp P (thn (fun env' w' => ∃ m, m < n ∧ I m env' w') Q) env w
  | .exit id, Q, env, w => Q (.exit id) env w
  | .ret, Q, env, w => Q .ret env w


/-! ### A region's translation -/
structure St where
  lv : List Nat
  m : List Ent
  pr : Option (List PrE)

def guardT (ops : Array Oper) (o : Oper) : Option (Option (Nat × Bool)) :=
  match o.guard with
  | none => some none
  | some (j, want) => match (ops[j]?).bind (·.dst) with
    | some tg => some (some (tg, want))
    | none => none

def guardE (st : St) : Option (Nat × Bool) → Option (Option (E × Bool))
  | none => some none
  | some (tg, want) => match rd st.lv st.m none none (.tmp tg) with
    | some e => some (some (e, want))
    | none => none

def wrapG : Option (E × Bool) → E → E
  | none, e => e
  | some (g, want), e => .gd g want e

def extOf (want : Bool) : Operand → Option (Nat × Bool)
  | .tmp t => some (t, want)
  | _ => none

def opE (P : Program) (st : St) (cur : Option (Nat × Bool)) (o : Op) : Option E :=
  match o with
  | .pick c a b => match rd st.lv st.m cur none c, rd st.lv st.m cur (extOf true c) a, rd st.lv st.m cur (extOf false c) b with
    | some ec, some ea, some eb => some (mkPk ec ea eb)
    | _, _, _ => none
  | o => cE P (rd st.lv st.m cur none) o

def cut (t : Nat) (m : List Ent) : List Ent :=
  m.filter fun en => en.t != t && (match en.g with | some (tg, _) => tg != t | none => true) && !en.e.ment t && !en.ge.ment t

def cuto : Option Nat → List Ent → List Ent
  | none, m => m
  | some t, m => cut t m

def PrE.ment (t : Nat) (p : PrE) : Bool := p.a.ment t || (match p.g with | some (g, _) => g.ment t | none => false)
def PrE.pure (p : PrE) : Bool := p.a.pure && (match p.g with | some (g, _) => g.pure | none => true)

def prCut (t : Nat) : Option (List PrE) → Option (List PrE)
  | none => none
  | some l => if l.any (PrE.ment t) then none else some l

def prCuto : Option Nat → Option (List PrE) → Option (List PrE)
  | none, l => l
  | some t, l => prCut t l

def prAdd (draw : Bool) (i : Nat) (e : E) (g : Option (E × Bool)) (pr : Option (List PrE)) : Option (List PrE) :=
  if draw then match pr with
    | none => none
    | some l => match e with
      | .ld a => if (PrE.mk i a 1 g).pure then some (⟨i, a, 1, g⟩ :: l) else none
      | .ldn n a => if (PrE.mk i a n g).pure then some (⟨i, a, n, g⟩ :: l) else none
      | _ => some l
  else pr

def mkChk (e : E) (s : S) : S := if triv e then s else .chk e s

def mkChkO (o : Op) (e : E) (s : S) : S := if isMv o then s else mkChk e s

def callable (P : Program) (f : FuncId) : Bool :=
  match P.funcs[f]? with
  | some fn => !(fn.name == "runtime.NumGoroutine") && fn.body.isSome
  | none => false

def rds (R : Operand → Option E) : List Operand → Option (List E)
  | [] => some []
  | x :: r => match R x, rds R r with
    | some e, some l => some (e :: l)
    | _, _ => none

/-- The temporaries among a general operation's operands, with their expressions. -/
def rdm (R : Operand → Option E) : List Operand → Option (List (Nat × E))
  | [] => some []
  | x :: r => match rdm R r with
    | none => none
    | some l => match x with
      | .tmp t => match R x with
        | some e => some ((t, e) :: l)
        | none => none
      | _ => some l

def plainOp : Op → Bool
  | .select _ _ | .go _ | .defer _ | .panic _ | .send _ _ | .recv _ _ _ => false
  | _ => true

def effS (P : Program) (R : Operand → Option E) (o : Oper) (pr : List PrE) (s : S) : Option S :=
  match o.op with
  | .store t x y => match P.info? t, R x, R y, o.dst with
    | some i, some a, some e, none => some (.st i.size a e pr s)
    | _, _, _, _ => none
  | .call { callee := .value (.func f), args, .. } => if callable P f then match rds R args.toList with
      | some es => some (.call o.dst f es pr s)
      | none => none
    else none
  | op => if plainOp op then match rdm R op.operands.toList with
      | some m => some (.op o.dst op o.type m pr s)
      | none => none
    else none

def consO (d : Option Nat) (lv : List Nat) : List Nat :=
  match d with
  | some t => if lv.contains t then lv else t :: lv
  | none => lv

def setO (d : Option Nat) (s : S) : S :=
  match d with
  | some t => .set t (.cn undef) s
  | none => s

def gIs : Option (Nat × Bool) → Nat → Bool
  | some (tg, _), t => tg == t
  | none, _ => false
def dOk : Option Nat → Nat → Bool
  | some t, n => decide (t < n)
  | none, _ => true

def _root_.Go.Proofs.Ytgjnfajdejkkjaa.VG.Sched.all : Sched → List Nat
  | .nil => []
  | .op i r => i :: r.all
  | .alt a b => a.all ++ b.all

def opTmps (l : List Operand) : List Nat := l.filterMap fun | .tmp t => some t | _ => none

/-- Is a temporary looked at by one of these operations? -/
def needs (ops : Array Oper) (rest : List Nat) (t : Nat) : Bool :=
  rest.any fun j => match ops[j]? with
    | some o => (opTmps o.op.operands.toList).contains t || (match guardT ops o with | some (some (tg, _)) => tg == t | _ => false)
    | none => false

/-- Temporaries written out before a variable that their expressions mention changes. -/
def matS : List Nat → St → Option (List (Nat × E) × St)
  | [], st => some ([], st)
  | t :: r, st => if st.lv.contains t then matS r st else match rd st.lv st.m none none (.tmp t) with
    | none => none
    | some e => match matS r ⟨t :: st.lv, st.m.filter (fun en => !en.e.ment t && !en.ge.ment t), prCut t st.pr⟩ with
      | none => none
      | some (l, st') => some ((t, e) :: l, st')

def setsS : List (Nat × E) → S → S
  | [], s => s
  | (t, e) :: r, s => .set t e (setsS r s)

def matOfSet (ops : Array Oper) (rest : List Nat) (t : Nat) (m : List Ent) : List Nat :=
  (m.filter fun en => (en.e.ment t || en.ge.ment t) && needs ops rest en.t).map (·.t)

/-- Is a temporary some later operation's guard? -/
def gUsed (ops : Array Oper) (rest : List Nat) (t : Nat) : Bool :=
  rest.any fun j => match ops[j]? with
    | some o => (match guardT ops o with | some (some (tg, _)) => tg == t | _ => false)
    | none => false

def go (P : Program) (ops : Array Oper) (q : Nat → Bool) (bf : Nat → Nat → Bool) (draw mat : Bool) (n : Nat) (k : S) : Sched → St → Option S
  | .nil, _ => some k
  | .alt x y, st => match go P ops q bf draw mat n k x st, go P ops q bf draw mat n k y st with
    | some a, some b => some (.alt a b)
    | _, _ => none
  | .op i rest, st =>
    match ops[i]? with
    | none => none
    | some o =>
      match guardT ops o with
      | none => none
      | some cur =>
        match guardE st cur with
        | none => none
        | some ge =>
          if q i then
            match opE P st cur o.op with
            | none => none
            | some e =>
              match o.dst with
              | none => match go P ops q bf draw mat n k rest ⟨st.lv, st.m, prAdd draw i e ge st.pr⟩ with
                | some s => some (mkChkO o.op (wrapG ge e) s)
                | none => none
              | some t => if t < n then
                  if st.lv.contains t || (mat && (isLoadOp o.op || gUsed ops rest.all t)) then
                    match matS (matOfSet ops rest.all t st.m) ⟨st.lv, st.m, prAdd draw i e ge st.pr⟩ with
                    | none => none
                    | some (l, st1) =>
                      if l.any (fun p => (wrapG ge e).ment p.1) then none else
                      match go P ops q bf draw mat n k rest ⟨consO (some t) st1.lv, cut t st1.m, prCut t st1.pr⟩ with
                      | some s => some (mkChkO o.op (wrapG ge e) (setsS l (.set t (wrapG ge e) s)))
                      | none => none
                  else if gIs cur t then none
                  else
                    match go P ops q bf draw mat n k rest ⟨st.lv, ⟨t, e, cur, (ge.map (·.1)).getD (.cn undef)⟩ :: cut t st.m, prAdd draw i e ge st.pr⟩ with
                    | some s => some (mkChkO o.op (wrapG ge e) s)
                    | none => none
                else none
          else
            match st.pr with
            | none => none
            | some l =>
              if dOk o.dst n then
                match go P ops q bf draw mat n k rest ⟨consO o.dst st.lv, (cuto o.dst st.m).filter (fun en => en.e.pure && en.ge.pure), prCuto o.dst (some (l.filter fun p => !bf p.i i))⟩ with
                | none => none
                | some s => match ge with
                  | none => effS P (rd st.lv st.m cur none) o (l.filter fun p => !bf p.i i) s
                  | some (g, want) => match effS P (rd st.lv st.m cur none) o (l.filter fun p => !bf p.i i) .nil with
                    | none => none
                    | some s' => some (.ifg g want s' (setO o.dst .nil) s)
              else none

end Go.Proofs.Ytgjnfajdejkkjaa.VG

/-! ## VG, part G: a region's translation is sound. -/
namespace Go.Proofs.Ytgjnfajdejkkjaa.VG
open Go
set_option linter.unusedSimpArgs false
set_option linter.unusedVariables false
set_option maxRecDepth 20000

def EntOk (en : Ent) (env : Env) (w : World) (a : Act) : Prop :=
  match en.g with
  | none => a.tmps.getD en.t undef = en.e.ev env w
  | some (tg, want) => a.tmps.getD tg undef = en.ge.ev env w ∧
      a.tmps.getD en.t undef = if isBool (a.tmps.getD tg undef) want = true then en.e.ev env w else undef

structure Agree (L : List Nat) (n : Nat) (env : Env) (a : Act) : Prop where
  size : a.tmps.size = n
  defers : a.defers = []
  eq : ∀ t ∈ L, a.tmps.getD t undef = env t

structure Inv (st : St) (n : Nat) (env : Env) (w : World) (a : Act) : Prop where
  ag : Agree st.lv n env a
  m : ∀ en ∈ st.m, EntOk en env w a

def Sat (a : Act) (g : Option (Nat × Bool)) : Prop := ∀ tg want, g = some (tg, want) → isBool (a.tmps.getD tg undef) want = true

section
variable {P : Program} {ops : Array Oper}

theorem sat_none (a : Act) : Sat a none := fun _ _ h => by cases h

theorem rd_ok {st : St} {n : Nat} {env : Env} {w : World} {a : Act} (inv : Inv st n env w a) {cur ext : Option (Nat × Bool)} (hcur : Sat a cur) (hext : Sat a ext) {x : Operand} {e : E}
    (h : rd st.lv st.m cur ext x = some e) : a.eval x = e.ev env w := by
  cases x with
  | const v => simp only [rd, Option.some.injEq] at h; subst h; rfl
  | global g => simp only [rd, Option.some.injEq] at h; subst h; rfl
  | func f => simp only [rd, Option.some.injEq] at h; subst h; rfl
  | tmp t =>
    simp only [rd] at h
    split at h
    case isTrue hl =>
      cases h
      exact inv.ag.eq t (by simpa using hl)
    case isFalse hl =>
      split at h
      case h_1 => cases h
      case h_2 en hf =>
        have hm := List.mem_of_find?_eq_some hf
        have ht : en.t = t := by have := List.find?_some hf; simpa using this
        have hok := inv.m en hm
        unfold EntOk at hok
        split at h
        case h_1 hg =>
          simp only [hg] at hok
          cases h
          simp only [Act.eval, ← ht]; exact hok
        case h_2 tg want hg =>
          simp only [hg] at hok
          obtain ⟨h1, h2⟩ := hok
          split at h
          case isTrue hc =>
            cases h
            have hb : isBool (a.tmps.getD tg undef) want = true := by
              simp only [Bool.or_eq_true, beq_iff_eq] at hc
              rcases hc with hc | hc
              · exact hcur tg want hc
              · exact hext tg want hc
            simp only [Act.eval, ← ht]
            rw [h2, if_pos hb]
          case isFalse hc =>
            cases h
            simp only [Act.eval, ← ht, E.ev]
            rw [h2, h1]

theorem wanted_eq {o : Oper} {cur : Option (Nat × Bool)} (h : guardT ops o = some cur) (a : Act) :
    Region.wanted o (yielded ops a.tmps) = (match cur with | none => true | some (tg, want) => isBool (a.tmps.getD tg undef) want) := by
  unfold guardT at h
  split at h
  case h_1 hg =>
    cases h
    simp [Region.wanted, hg]
  case h_2 j want hg =>
    split at h
    case h_1 tg hd =>
      cases h
      simp only [Region.wanted, hg, yielded, hd, Option.bind_some]
      by_cases hlt : tg < a.tmps.size
      · simp only [Array.getD, hlt, dite_true, Array.getElem?_eq_getElem hlt]
        show _ = isBool (a.tmps[tg]) want
        cases a.tmps[tg] <;> simp [isBool]
      · simp [Array.getElem?_eq_none (Nat.le_of_not_lt hlt), hlt, isBool, undef]
    case h_2 => cases h

theorem guardE_ok {st : St} {n : Nat} {env : Env} {w : World} {a : Act} (inv : Inv st n env w a) {tg : Nat} {want : Bool} {ge : Option (E × Bool)} (h : guardE st (some (tg, want)) = some ge) :
    ∃ e, ge = some (e, want) ∧ a.tmps.getD tg undef = e.ev env w := by
  simp only [guardE] at h
  split at h
  case h_1 e he =>
    cases h
    exact ⟨e, rfl, rd_ok inv (sat_none a) (sat_none a) he⟩
  case h_2 => cases h

/-- The guard's outcome, by the temporary or by its expression. -/
def gHolds (ge : Option (E × Bool)) (env : Env) (w : World) : Prop :=
  match ge with
  | none => True
  | some (e, want) => isBool (e.ev env w) want = true

theorem wrapG_ev_true {ge : Option (E × Bool)} {e : E} {env : Env} {w : World} (h : gHolds ge env w) : (wrapG ge e).ev env w = e.ev env w := by
  cases ge with
  | none => rfl
  | some p => obtain ⟨g, want⟩ := p; simp only [gHolds] at h; simp [wrapG, E.ev, h]

theorem wrapG_ev_false {ge : Option (E × Bool)} {e : E} {env : Env} {w : World} (h : ¬ gHolds ge env w) : (wrapG ge e).ev env w = undef := by
  cases ge with
  | none => exact absurd trivial h
  | some p => obtain ⟨g, want⟩ := p; simp only [gHolds] at h; simp [wrapG, E.ev, h]

theorem wrapG_ok {ge : Option (E × Bool)} {e : E} {env : Env} {w : World} (h : (wrapG ge e).ok env w) (hg : gHolds ge env w) : e.ok env w := by
  cases ge with
  | none => exact h
  | some p => obtain ⟨g, want⟩ := p; exact h hg

theorem wanted_iff {st : St} {n : Nat} {env : Env} {w : World} {a : Act} (inv : Inv st n env w a) {o : Oper} {cur : Option (Nat × Bool)} {ge : Option (E × Bool)} (h : guardT ops o = some cur) (hge : guardE st cur = some ge) :
    (Region.wanted o (yielded ops a.tmps) = true ↔ gHolds ge env w) ∧ (gHolds ge env w → Sat a cur) := by
  rw [wanted_eq h a]
  cases cur with
  | none =>
    simp only [guardE, Option.some.injEq] at hge
    subst hge
    exact ⟨by simp [gHolds], fun _ => sat_none a⟩
  | some p =>
    obtain ⟨tg, want⟩ := p
    obtain ⟨e, rfl, he⟩ := guardE_ok inv hge
    simp only [gHolds, he]
    refine ⟨by first | trivial | exact Iff.rfl, fun hb tg' want' heq => ?_⟩
    cases heq
    rw [he]; exact hb

theorem mkPk_ok {c x y : E} {env : Env} {w : World} (h : (mkPk c x y).ok env w) : isB (c.ev env w) := by
  unfold mkPk at h
  split at h
  · split at h <;> exact h
  · split at h <;> exact h
  · exact h

theorem mkPk_ev {c x y : E} {env : Env} {w : World} : (mkPk c x y).ev env w = if asB (c.ev env w) = true then x.ev env w else y.ev env w := by
  unfold mkPk
  split
  · split
    · rename_i hb
      simp only [E.ev]
      rw [boolE_ok hb env w]
      cases asB (c.ev env w) <;> simp [asB]
    · rfl
  · split
    · rename_i hb
      simp only [E.ev]
      rw [boolE_ok hb env w]
      cases asB (c.ev env w) <;> simp [asB]
    · rfl
  · rfl

theorem sat_ext {a : Act} {c : Operand} {b : Bool} (h : a.eval c = .bool b) : Sat a (extOf b c) := by
  intro tg want heq
  cases c <;> simp only [extOf] at heq <;> cases heq
  simp only [Act.eval] at h
  rw [h]; simp [isBool]

/-- An operation that only reads yields its expression. -/
theorem opE_run {st : St} {n : Nat} {env : Env} {w : World} {a : Act} (inv : Inv st n env w a) {o : Oper} {cur : Option (Nat × Bool)} (hcur : Sat a cur) {e : E} (h : opE P st cur o.op = some e) (hok : isMv o.op = true ∨ e.ok env w)
    (w' : World) (hw : Holds1 e env w w') : (execOp a.eval o).run P w' = .ok (.value (e.ev env w)) w' := by
  unfold opE at h
  split at h
  case h_1 c x y heq =>
    split at h
    case h_1 ec ea eb hc hx hy =>
      cases h
      have h1 := rd_ok inv hcur (sat_none a) hc
      have hb := mkPk_ok (hok.resolve_left (by rw [heq]; simp [isMv]))
      obtain ⟨b, hb⟩ := isB_cases hb
      obtain ⟨dst, op, ty, pos, af, gd⟩ := o
      simp only at heq
      subst heq
      rw [mkPk_ev, hb]
      simp only [execOp, h1, hb, asBool, run_bind, run_pure, asB]
      cases b with
      | true => simp only [if_true]; rw [rd_ok inv hcur (sat_ext (h1.trans hb)) hx]
      | false => simp only [Bool.false_eq_true, if_false]; rw [rd_ok inv hcur (sat_ext (h1.trans hb)) hy]
    case h_2 => cases h
  case h_2 =>
    exact cE_run h a.eval env w (fun _ => rfl) (fun x ex hx _ => rd_ok inv hcur (sat_none a) hx) hok w' hw


theorem getD_set_other (xs : Array Value) {t t' : Nat} (v : Value) (h : t' ≠ t) : (xs.setIfInBounds t v).getD t' undef = xs.getD t' undef := by
  simp only [Array.getD_eq_getD_getElem?]
  rw [Array.getElem?_setIfInBounds_ne (Ne.symm h)]
theorem getD_set_self (xs : Array Value) {t : Nat} (v : Value) (h : t < xs.size) : (xs.setIfInBounds t v).getD t undef = v := by
  simp only [Array.getD_eq_getD_getElem?]
  simp [h]

theorem consO_mem {t t' : Nat} {lv : List Nat} : t' ∈ consO (some t) lv ↔ t' = t ∨ t' ∈ lv := by
  simp only [consO]
  split
  · rename_i h
    have : t ∈ lv := by simpa using h
    constructor
    · exact .inr
    · rintro (rfl | h)
      · exact this
      · exact h
  · simp

theorem mem_cut {t : Nat} {m : List Ent} {en : Ent} (h : en ∈ cut t m) : en ∈ m ∧ en.t ≠ t ∧ (∀ tg want, en.g = some (tg, want) → tg ≠ t) ∧ en.e.ment t = false ∧ en.ge.ment t = false := by
  simp only [cut, List.mem_filter, Bool.and_eq_true, bne_iff_ne, Bool.not_eq_true'] at h
  obtain ⟨h1, ⟨⟨h2, h3⟩, h4⟩, h5⟩ := h
  refine ⟨h1, h2, fun tg want hg => ?_, h4, h5⟩
  rw [hg] at h3
  simpa using h3

theorem entOk_put {en : Ent} {env : Env} {w : World} {a : Act} {t : Nat} {v : Value} (h : EntOk en env w a) (h1 : en.t ≠ t) (h2 : ∀ tg want, en.g = some (tg, want) → tg ≠ t) : EntOk en env w (a.put (some t) v) := by
  unfold EntOk at *
  cases hg : en.g with
  | none => simp only [hg] at h ⊢; simp only [Act.put]; rw [getD_set_other _ _ h1]; exact h
  | some p =>
    obtain ⟨tg, want⟩ := p
    simp only [hg] at h ⊢
    have e1 : (a.put (some t) v).tmps.getD en.t undef = a.tmps.getD en.t undef := getD_set_other _ _ h1
    have e2 : (a.put (some t) v).tmps.getD tg undef = a.tmps.getD tg undef := getD_set_other _ _ (h2 tg want hg)
    rw [e1, e2]
    exact h

theorem entOk_upd {en : Ent} {env : Env} {w : World} {a : Act} {t : Nat} {v : Value} (h : EntOk en env w a) (h1 : en.e.ment t = false) (h2 : en.ge.ment t = false) : EntOk en (upd env t v) w a := by
  unfold EntOk at *
  cases hg : en.g with
  | none => simp only [hg] at h ⊢; rw [E.ev_upd _ h1]; exact h
  | some p =>
    obtain ⟨tg, want⟩ := p
    simp only [hg] at h ⊢
    rw [E.ev_upd _ h1, E.ev_upd _ h2]
    exact h

theorem entOk_world {en : Ent} {env : Env} {w w' : World} {a : Act} (h : EntOk en env w a) (h1 : en.e.pure = true) (h2 : en.ge.pure = true) : EntOk en env w' a := by
  unfold EntOk at *
  cases hg : en.g with
  | none => simp only [hg] at h ⊢; rw [E.ev_pure (w := w) _ h1]; exact h
  | some p =>
    obtain ⟨tg, want⟩ := p
    simp only [hg] at h ⊢
    rw [E.ev_pure (w := w) _ h1, E.ev_pure (w := w) _ h2]
    exact h

theorem Inv.put_new {st : St} {n : Nat} {env : Env} {w : World} {a : Act} (inv : Inv st n env w a) {t : Nat} (ht : t < n) (hl : st.lv.contains t = false) {en : Ent} (het : en.t = t) {v : Value} (pr : Option (List PrE))
    (hen : EntOk en env w (a.put (some t) v)) : Inv ⟨st.lv, en :: cut t st.m, pr⟩ n env w (a.put (some t) v) := by
  refine ⟨⟨?_, inv.ag.defers, fun t' ht' => ?_⟩, fun en' hen' => ?_⟩
  · simp [Act.put, inv.ag.size]
  · have : t' ≠ t := fun e => by subst e; simp at hl; exact hl ht'
    simp only [Act.put]
    rw [getD_set_other _ _ this]
    exact inv.ag.eq t' ht'
  · rcases List.mem_cons.1 hen' with rfl | hen'
    · exact hen
    · obtain ⟨h1, h2, h3, h4, h5⟩ := mem_cut hen'
      exact entOk_put (inv.m en' h1) h2 h3

theorem Inv.put_set {st : St} {n : Nat} {env : Env} {w : World} {a : Act} (inv : Inv st n env w a) {t : Nat} (ht : t < n) (v : Value) (pr : Option (List PrE)) :
    Inv ⟨consO (some t) st.lv, cut t st.m, pr⟩ n (upd env t v) w (a.put (some t) v) := by
  refine ⟨⟨?_, inv.ag.defers, fun t' ht' => ?_⟩, fun en hen => ?_⟩
  · simp [Act.put, inv.ag.size]
  · simp only [Act.put, upd]
    by_cases h : t' = t
    · subst h
      rw [getD_set_self _ _ (by rw [inv.ag.size]; exact ht), if_pos rfl]
    · rw [getD_set_other _ _ h, if_neg h]
      exact inv.ag.eq t' ((consO_mem.1 ht').resolve_left h)
  · obtain ⟨h1, h2, h3, h4, h5⟩ := mem_cut hen
    exact entOk_upd (entOk_put (inv.m en h1) h2 h3) h4 h5

theorem Inv.world {st : St} {n : Nat} {env : Env} {w : World} {a : Act} (inv : Inv st n env w a) (w' : World) (pr : Option (List PrE)) :
    Inv ⟨st.lv, st.m.filter (fun en => en.e.pure && en.ge.pure), pr⟩ n env w' a := by
  refine ⟨inv.ag, fun en hen => ?_⟩
  simp only [List.mem_filter, Bool.and_eq_true] at hen
  exact entOk_world (inv.m en hen.1) hen.2.1 hen.2.2

theorem Inv.eff {st : St} {n : Nat} {env : Env} {w : World} {a : Act} (inv : Inv st n env w a) (d : Option Nat) (hd : ∀ t, d = some t → t < n) (v : Value) (w' : World) (pr : Option (List PrE)) :
    Inv ⟨consO d st.lv, (cuto d st.m).filter (fun en => en.e.pure && en.ge.pure), pr⟩ n (updo env d v) w' (a.put d v) := by
  cases d with
  | none => exact inv.world w' pr
  | some t => exact (inv.put_set (hd t rfl) v pr).world w' pr

def PrRel (pr : Option (List PrE)) (Pr : Prom) (env : Env) (w : World) : Prop :=
  ∀ l, pr = some l → ∀ p ∈ Pr, (∀ w', p.2 w') ∨ ∃ pe ∈ l, pe.i = p.1 ∧ pe.pure = true ∧ ∀ w', promOk pe env w w' → p.2 w'

theorem promOk_upd {pe : PrE} {env : Env} {w w' : World} {t : Nat} {v : Value} (h : pe.ment t = false) : promOk pe (upd env t v) w w' ↔ promOk pe env w w' := by
  obtain ⟨i, a, n, g⟩ := pe
  simp only [PrE.ment, Bool.or_eq_false_iff] at h
  unfold promOk
  cases g with
  | none => simp only [E.ev_upd a h.1]
  | some p => obtain ⟨g, want⟩ := p; simp only [E.ev_upd a h.1, E.ev_upd g h.2]

theorem SameCells.trans {a : Addr} {n : Nat} {w w' w'' : World} (h : SameCells a n w w') (k : SameCells a n w' w'') : SameCells a n w w'' := fun j hj => (k j hj).trans (h j hj)

theorem promOk_trans {pe : PrE} {env : Env} {w w' w'' : World} (hp : pe.pure = true) (h : promOk pe env w w') (k : promOk pe env w' w'') : promOk pe env w w'' := by
  obtain ⟨i, a, n, g⟩ := pe
  simp only [PrE.pure, Bool.and_eq_true] at hp
  unfold promOk at *
  intro hg
  have ea : a.ev env w' = a.ev env w := E.ev_pure a hp.1
  have h1 := h hg
  simp only at h1 k ⊢
  rw [ea] at k
  refine h1.trans (k ?_)
  cases g with
  | none => trivial
  | some p => obtain ⟨g, want⟩ := p; simp only at hg ⊢; rw [E.ev_pure (w := w) g hp.2]; exact hg

theorem PrRel.cut {pr : Option (List PrE)} {Pr : Prom} {env : Env} {w : World} (h : PrRel pr Pr env w) (t : Nat) (v : Value) : PrRel (prCut t pr) Pr (upd env t v) w := by
  intro l hl p hp
  cases pr with
  | none => simp [prCut] at hl
  | some l' =>
    simp only [prCut] at hl
    split at hl
    · cases hl
    · rename_i hn
      simp only [Option.some.injEq] at hl
      subst hl
      rcases h l' rfl p hp with h1 | ⟨pe, h1, h2, h3, h4⟩
      · exact .inl h1
      · refine .inr ⟨pe, h1, h2, h3, fun w' hw' => h4 w' ?_⟩
        have : pe.ment t = false := by
          cases hm : pe.ment t with
          | false => rfl
          | true => exact absurd (List.any_eq_true.2 ⟨pe, h1, hm⟩) hn
        exact (promOk_upd this).1 hw'

theorem PrRel.add {pr : Option (List PrE)} {Pr : Prom} {env : Env} {w : World} (h : PrRel pr Pr env w) (i : Nat) (e : E) (ge : Option (E × Bool)) :
    PrRel (prAdd true i e ge pr) ((i, fun w' => gHolds ge env w → Holds1 e env w w') :: Pr) env w := by
  intro l hl p hp
  cases pr with
  | none => simp [prAdd] at hl
  | some l' =>
    simp only [prAdd, if_true] at hl
    have key : ∀ (pe : PrE), l = pe :: l' → pe.i = i → pe.pure = true → (∀ w', promOk pe env w w' → (gHolds ge env w → Holds1 e env w w')) →
        (∀ w', p.2 w') ∨ ∃ pe ∈ l, pe.i = p.1 ∧ pe.pure = true ∧ ∀ w', promOk pe env w w' → p.2 w' := by
      intro pe h1 h2 h3 h4
      subst h1
      rcases List.mem_cons.1 hp with rfl | hp
      · exact .inr ⟨pe, List.mem_cons_self .., h2, h3, h4⟩
      · rcases h l' rfl p hp with h1 | ⟨pe', h1, h2, h3, h4⟩
        · exact .inl h1
        · exact .inr ⟨pe', List.mem_cons_of_mem _ h1, h2, h3, h4⟩
    split at hl
    · split at hl
      · rename_i a hpure
        simp only [Option.some.injEq] at hl
        refine key ⟨i, a, 1, ge⟩ hl.symm rfl hpure (fun w' hw' hg => ?_)
        refine hw' ?_
        cases ge with
        | none => trivial
        | some p => exact hg
      · cases hl
    · split at hl
      · rename_i n a hpure
        simp only [Option.some.injEq] at hl
        refine key ⟨i, a, n, ge⟩ hl.symm rfl hpure (fun w' hw' hg => ?_)
        refine hw' ?_
        cases ge with
        | none => trivial
        | some p => exact hg
      · cases hl
    · rename_i h1 h2
      simp only [Option.some.injEq] at hl
      subst hl
      rcases List.mem_cons.1 hp with rfl | hp
      · refine .inl fun w' _ => ?_
        unfold Holds1
        cases e <;> first | trivial | (exact (h1 _ rfl).elim) | (exact (h2 _ _ rfl).elim)
      · exact h l' rfl p hp

theorem promsOk_mem {l : List PrE} {env : Env} {w w' : World} (h : promsOk l env w w') {pe : PrE} (hp : pe ∈ l) : promOk pe env w w' := by
  induction l with
  | nil => cases hp
  | cons x r ih =>
    rcases List.mem_cons.1 hp with rfl | hp
    · exact h.1
    · exact ih h.2 hp

theorem PrRel.keep {l : List PrE} {Pr : Prom} {env : Env} {w w' : World} (h : PrRel (some l) Pr env w) (bf : Nat → Nat → Bool) (i : Nat) (hp : promsOk (l.filter fun p => !bf p.i i) env w w') :
    (∀ p ∈ keep bf i Pr, p.2 w') ∧ PrRel (some (l.filter fun p => !bf p.i i)) (keep bf i Pr) env w' := by
  constructor
  · intro p hk
    simp only [VG.keep, List.mem_filter] at hk
    rcases h l rfl p hk.1 with h1 | ⟨pe, h1, h2, h3, h4⟩
    · exact h1 w'
    · refine h4 w' (promsOk_mem hp (List.mem_filter.2 ⟨h1, ?_⟩))
      rw [h2]; exact hk.2
  · intro l' hl' p hk
    simp only [Option.some.injEq] at hl'
    subst hl'
    simp only [VG.keep, List.mem_filter] at hk
    rcases h l rfl p hk.1 with h1 | ⟨pe, h1, h2, h3, h4⟩
    · exact .inl h1
    · have hm : pe ∈ l.filter fun p => !bf p.i i := List.mem_filter.2 ⟨h1, by rw [h2]; exact hk.2⟩
      exact .inr ⟨pe, hm, h2, h3, fun w'' hw'' => h4 w'' (promOk_trans h3 (promsOk_mem hp hm) hw'')⟩


/-! ### Effects -/
theorem setCell_isSome (w : World) (a b : Addr) (v : Value) : ((w.setCell a v).cell? b).isSome = (w.cell? b).isSome := by
  unfold World.cell? World.setCell
  simp only [Array.getElem?_modify]
  by_cases hab : a.block = b.block
  · rw [if_pos hab]
    cases hh : w.heap[b.block]? with
    | none => simp
    | some o =>
      cases o with
      | cells c e f =>
        simp only [Option.map_some]
        by_cases hb : b.spot.isSome = true
        · simp [hb]
        · simp only [hb, Bool.false_eq_true, if_false]
          by_cases ha : a.spot.isSome = true
          · simp [ha]
          · simp only [ha, Bool.false_eq_true, if_false, Array.getElem?_setIfInBounds]
            split
            · split
              · rename_i h1 h2; rw [h1] at h2; simp [h2]
              · rename_i h1 h2; rw [h1] at h2; simp [h2]
            · rfl
      | _ => simp
  · rw [if_neg hab]

theorem run_storeCells (a : Addr) : ∀ (vs : List Value) (i : Nat) (w : World), (∀ j, i ≤ j → j < i + vs.length → (w.cell? (a.add j)).isSome = true ∧ w.frozen? (a.add j) = false) → (∀ x ∈ vs, one1 x = true) →
    (storeCells a vs i).run P w = .ok () (putCells w a i vs)
  | [], i, w, _, _ => rfl
  | v :: r, i, w, h, h1 => by
    obtain ⟨h2, h3⟩ := h i (Nat.le_refl _) (by simp)
    obtain ⟨u, hu⟩ := Option.isSome_iff_exists.1 h2
    have hst : (store (a.add i) v).run P w = .ok () (w.setCell (a.add i) v) := by
      have := h1 v (List.mem_cons_self ..)
      unfold store
      cases v <;> first | (simp [one1] at this; done) | simp [Sem.run, hu, h3]
    rw [storeCells, run_bind, hst]
    simp only []
    rw [run_storeCells a r (i + 1) _ (fun j h4 h5 => ?_) (fun x hx => h1 x (List.mem_cons_of_mem _ hx))]
    · rfl
    · obtain ⟨h6, h7⟩ := h j (by omega) (by simp; omega)
      exact ⟨by rw [setCell_isSome]; exact h6, by rw [World.frozen?_setCell]; exact h7⟩

theorem run_storeAt {t : TypeId} {i : TypeInfo} (hi : P.info? t = some i) {a v : Value} {w : World} {K : World → Prop} (h : storeWp i.size a v w K) :
    ∃ w', (Instr.storeAt t a v).run P w = .ok () w' ∧ K w' := by
  obtain ⟨h1, h2, h3, h4, h5⟩ := h
  obtain ⟨ad, rfl⟩ := isP_cases h1
  refine ⟨_, ?_, h5⟩
  simp only [Instr.storeAt, Instr.sureAddr, run_bind, run_pure, storeVar, run_sizeOf hi]
  rw [if_neg (by simp [h2])]
  exact run_storeCells ad v.cells.toList 0 w (fun j _ hj => h3 j (by simpa [h2] using hj)) h4

theorem callable_run {f : FuncId} (h : callable P f = true) (args : Array Value) (w : World) : (callFunc f args).run P w = .ok (.enter f args) w := by
  unfold callable at h
  split at h
  · rename_i fn hf
    simp only [Bool.and_eq_true, Bool.not_eq_true'] at h
    have hb : fn.body.isNone = false := by
      cases hb : fn.body with
      | none => simp [hb] at h
      | some _ => rfl
    simp only [callFunc, run_bind, run_program, hf, h.1, hb, Bool.false_eq_true, if_false, run_pure]
  · cases h

theorem rds_ok {R : Operand → Option E} {ρ : Operand → Value} {env : Env} {w : World} : ∀ {l : List Operand} {es : List E}, rds R l = some es → (∀ x ex, R x = some ex → ρ x = ex.ev env w) → l.map ρ = evs es env w
  | [], es, h, _ => by simp only [rds, Option.some.injEq] at h; subst h; rfl
  | x :: r, es, h, hR => by
    simp only [rds] at h
    split at h
    · rename_i e l hx hl
      cases h
      simp only [List.map_cons, evs]
      rw [hR x e hx, rds_ok hl hR]
      rfl
    · cases h

theorem rdm_ok {R : Operand → Option E} {a : Act} {env : Env} {w : World} : ∀ {l : List Operand} {m : List (Nat × E)}, rdm R l = some m → (∀ x ex, R x = some ex → a.eval x = ex.ev env w) →
    ∀ x ∈ l, a.eval x = rhoOf m env w x
  | [], m, h, _, x, hx => by cases hx
  | y :: r, m, h, hR, x, hx => by
    simp only [rdm] at h
    split at h
    · cases h
    · rename_i l hl
      have ih := rdm_ok hl hR
      have hr : ∀ (m' : List (Nat × E)), (∀ t, (m'.find? (fun p => p.1 == t)).isSome = true → ∀ p, m'.find? (fun p => p.1 == t) = some p → a.eval (.tmp t) = p.2.ev env w) → True := fun _ _ => trivial
      cases y with
      | tmp t =>
        simp only at h
        split at h
        · rename_i e he
          simp only [Option.some.injEq] at h
          subst h
          have hte := hR (.tmp t) e he
          by_cases hxt : x = .tmp t
          · subst hxt
            simp only [rhoOf, List.find?_cons, beq_self_eq_true]
            exact hte
          · have hxr := (List.mem_cons.1 hx).resolve_left hxt
            have := ih x hxr
            cases x with
            | tmp t' =>
              have hne : (t == t') = false := by simp; exact fun e => hxt (by rw [e])
              simp only [rhoOf, List.find?_cons, hne] at this ⊢
              exact this
            | _ => exact this
        · cases h
      | const v => simp only [Option.some.injEq] at h; subst h; rcases List.mem_cons.1 hx with rfl | hx; exact rfl; exact ih x hx
      | global v => simp only [Option.some.injEq] at h; subst h; rcases List.mem_cons.1 hx with rfl | hx; exact rfl; exact ih x hx
      | func v => simp only [Option.some.injEq] at h; subst h; rcases List.mem_cons.1 hx with rfl | hx; exact rfl; exact ih x hx

theorem plainOp_sel {o : Op} (h : plainOp o = true) : ∀ cs b, o ≠ .select cs b := by
  intro cs b e; subst e; simp [plainOp] at h

theorem upon_of_uponK {o : Oper} {a : Act} {next : Act → World → Prop} {QQ : Exit → Act → World → Prop} {K : Value → World → Prop} {r : Result Next} (h : uponK P K r) (hK : ∀ v w', K v w' → next (a.put o.dst v) w') :
    o.upon P a next QQ r := by
  cases r with
  | ok n w =>
    cases n <;> simp only [uponK] at h <;> simp only [Oper.upon]
    · exact hK _ _ h
    · exact hK _ _ h
    · exact h.mono fun e w' ⟨v, he, hv⟩ => by subst he; exact hK _ _ hv
  | halt x w => simp only [uponK] at h

theorem effS_sound {R : Operand → Option E} {o : Oper} {pr : List PrE} {s s' : S} {Q : Exit → Env → World → Prop} {env : Env} {w : World} {a : Act} {K : Act → World → Prop} {QQ : Exit → Act → World → Prop}
    (h : effS P R o pr s = some s') (hwp : s'.wp P Q env w) (hR : ∀ x ex, R x = some ex → a.eval x = ex.ev env w)
    (hK : ∀ v w', promsOk pr env w w' → s.wp P Q (updo env o.dst v) w' → K (a.put o.dst v) w') : o.wp P a w K QQ := by
  obtain ⟨dst, op, ty, pos, af, gd⟩ := o
  unfold effS at h
  split at h
  case h_1 t x y heq =>
    simp only at heq hK
    subst heq
    split at h
    case h_1 i ae ee hi hx hy hd =>
      cases h
      simp only at hd
      subst hd
      simp only [S.wp] at hwp
      rw [← hR x ae hx, ← hR y ee hy] at hwp
      obtain ⟨w', hrun, h1, h2⟩ := run_storeAt hi hwp
      simp only [Oper.wp, execOp, run_bind, hrun, run_pure, Oper.upon]
      exact hK undef w' h1 h2
    case h_2 => cases h
  case h_2 f args at' heq =>
    simp only at heq hK
    subst heq
    split at h
    case isTrue hcal =>
      split at h
      case h_1 es hes =>
        cases h
        simp only [S.wp] at hwp
        have hmap := rds_ok hes hR
        have harr : args.map a.eval = (evs es env w).toArray := by
          rw [← hmap, ← Array.toList_map]
        simp only [Oper.wp, execOp, resolve, run_bind, run_pure, Act.eval, Deferred.ofValue, invoke]
        have e1 : (#[] ++ Array.map a.eval args) ++ #[] = (evs es env w).toArray := by rw [harr, Array.empty_append, Array.append_empty]
        rw [callable_run hcal, e1]
        simp only [Oper.upon]
        exact hwp.mono fun e w' ⟨v, he, h1, h2⟩ => by subst he; exact hK v w' h1 h2
      case h_2 => cases h
    case isFalse => cases h
  case h_3 =>
    split at h
    case isTrue hpl =>
      split at h
      case h_1 m hm =>
        cases h
        simp only [S.wp] at hwp
        have hev := rdm_ok hm hR
        have hsel := plainOp_sel hpl
        have e1 : execOp a.eval ⟨dst, op, ty, pos, af, gd⟩ = execOp (rhoOf m env w) ⟨dst, op, ty, pos, af, gd⟩ := execOp_congr _ hsel (fun x hx => hev x (by simpa using hx))
        have e2 : execOp (rhoOf m env w) ⟨dst, op, ty, pos, af, gd⟩ = execOp (rhoOf m env w) (opOf op ty) := rfl
        unfold Oper.wp
        rw [e1, e2]
        exact upon_of_uponK hwp (fun v w' hv => hK v w' hv.1 hv.2)
      case h_2 => cases h
    case isFalse => cases h

end
end Go.Proofs.Ytgjnfajdejkkjaa.VG

/-! ## VG, part H: the translation of a whole function, and that it is sound. -/
namespace Go.Proofs.Ytgjnfajdejkkjaa.VG
open Go
set_option linter.unusedSimpArgs false
set_option linter.unusedVariables false
set_option maxRecDepth 20000

section
variable {P : Program} {ops : Array Oper}

def QR (L : List Nat) (n : Nat) (K : Env → World → Prop) : Exit → Act → World → Prop
  | .normal, a, w => ∃ env, Agree L n env a ∧ K env w
  | _, _, _ => False

theorem mkChk_wp {e : E} {s : S} {Q : Exit → Env → World → Prop} {env : Env} {w : World} (h : (mkChk e s).wp P Q env w) : e.ok env w ∧ s.wp P Q env w := by
  unfold mkChk at h
  split at h
  · rename_i ht; exact ⟨triv_ok ht env w, h⟩
  · exact h

theorem mkChkO_wp {o : Op} {e : E} {s : S} {Q : Exit → Env → World → Prop} {env : Env} {w : World} (h : (mkChkO o e s).wp P Q env w) : (isMv o = true ∨ e.ok env w) ∧ s.wp P Q env w := by
  unfold mkChkO at h
  split at h
  · rename_i ht; exact ⟨.inl ht, h⟩
  · obtain ⟨h1, h2⟩ := mkChk_wp h; exact ⟨.inr h1, h2⟩

theorem matS_ok {n : Nat} {Q : Exit → Env → World → Prop} {w : World} {a : Act} {draw : Bool} {Pr : Prom} : ∀ (ts : List Nat) (st st' : St) (l : List (Nat × E)) (s : S) (env : Env), matS ts st = some (l, st') → (setsS l s).wp P Q env w → Inv st n env w a →
    (draw = true → PrRel st.pr Pr env w) → ∃ env', s.wp P Q env' w ∧ Inv st' n env' w a ∧ (draw = true → PrRel st'.pr Pr env' w) ∧ (∀ t ∈ st.lv, t ∈ st'.lv) ∧ (∀ e : E, (l.any fun p => e.ment p.1) = false → e.ev env' w = e.ev env w)
  | [], st, st', l, s, env, h, hwp, inv, hpr => by
    simp only [matS, Option.some.injEq, Prod.mk.injEq] at h
    obtain ⟨rfl, rfl⟩ := h
    exact ⟨env, hwp, inv, hpr, fun t ht => ht, fun e _ => rfl⟩
  | t :: r, st, st', l, s, env, h, hwp, inv, hpr => by
    simp only [matS] at h
    split at h
    case isTrue => exact matS_ok r st st' l s env h hwp inv hpr
    case isFalse hnl =>
    split at h
    case h_1 => cases h
    case h_2 e he =>
    split at h
    case h_1 => cases h
    case h_2 l1 st1 hm =>
    cases h
    have hval := rd_ok inv (sat_none a) (sat_none a) he
    simp only [setsS, S.wp] at hwp
    have inv' : Inv ⟨t :: st.lv, st.m.filter (fun en => !en.e.ment t && !en.ge.ment t), prCut t st.pr⟩ n (upd env t (e.ev env w)) w a := by
      refine ⟨⟨inv.ag.size, inv.ag.defers, fun t' ht' => ?_⟩, fun en hen => ?_⟩
      · by_cases h : t' = t
        · subst h; simp only [upd, if_pos]; exact hval
        · simp only [upd, if_neg h]
          exact inv.ag.eq t' ((List.mem_cons.1 ht').resolve_left h)
      · simp only [List.mem_filter, Bool.and_eq_true, Bool.not_eq_true'] at hen
        exact entOk_upd (inv.m en hen.1) hen.2.1 hen.2.2
    obtain ⟨env', h1, h2, h3, h4, h5⟩ := matS_ok r _ _ l1 s _ hm hwp inv' (fun hd => (hpr hd).cut t _)
    refine ⟨env', h1, h2, h3, fun t' ht' => h4 t' (List.mem_cons_of_mem _ ht'), fun e' he' => ?_⟩
    simp only [List.any_cons, Bool.or_eq_false_iff] at he'
    rw [h5 e' he'.2, E.ev_upd _ he'.1]

theorem go_sound {q : Nat → Bool} {bf : Nat → Nat → Bool} {draw mat : Bool} {n : Nat} {k : S} {L : List Nat} {Q : Exit → Env → World → Prop} (hd : draw = false → ∀ i j, bf i j = true) :
    ∀ (sched : Sched) (st : St) (s : S) (env : Env) (w : World) (a : Act) (Pr : Prom), go P ops q bf draw mat n k sched st = some s → s.wp P Q env w → Inv st n env w a →
      (draw = true → PrRel st.pr Pr env w) → (∀ t ∈ L, t ∈ st.lv) → wpS P ops (QR L n (k.wp P Q)) bf q sched Pr a w
  | .nil, st, s, env, w, a, Pr, hgo, hwp, inv, hpr, hL => by
    simp only [go, Option.some.injEq] at hgo
    subst hgo
    exact ⟨env, ⟨inv.ag.size, inv.ag.defers, fun t ht => inv.ag.eq t (hL t ht)⟩, hwp⟩
  | .alt x y, st, s, env, w, a, Pr, hgo, hwp, inv, hpr, hL => by
    simp only [go] at hgo
    split at hgo
    case h_2 => cases hgo
    case h_1 sa sb ha hb =>
    cases hgo
    exact ⟨go_sound hd x st sa env w a Pr ha hwp.1 inv hpr hL, go_sound hd y st sb env w a Pr hb hwp.2 inv hpr hL⟩
  | .op i rest, st, s, env, w, a, Pr, hgo, hwp, inv, hpr, hL => by
    simp only [go] at hgo
    split at hgo
    case h_1 => cases hgo
    case h_2 o ho =>
    split at hgo
    case h_1 => cases hgo
    case h_2 cur hcur =>
    split at hgo
    case h_1 => cases hgo
    case h_2 ge hge =>
    obtain ⟨hw1, hw2⟩ := wanted_iff inv hcur hge
    simp only [wpS, ho]
    by_cases hq : q i = true
    · simp only [hq, if_true] at hgo ⊢
      split at hgo
      case h_1 => cases hgo
      case h_2 e he =>
      have main : ∀ (s1 : S) , (isMv o.op = true ∨ (wrapG ge e).ok env w) → (wpS P ops (QR L n (k.wp P Q)) bf q rest ((i, fun w' => gHolds ge env w → Holds1 e env w w') :: Pr) (a.put o.dst ((wrapG ge e).ev env w)) w) →
          ∃ v S, S w ∧ YieldsIf P ops S o v a ∧ wpS P ops (QR L n (k.wp P Q)) bf q rest ((i, S) :: Pr) (a.put o.dst v) w := by
        intro s1 hok hrest
        refine ⟨_, _, fun _ => Holds1.refl e env w, ?_, hrest⟩
        by_cases hg : gHolds ge env w
        · refine .inl ⟨hw1.2 hg, fun w' hw' => ?_⟩
          rw [wrapG_ev_true hg]
          exact opE_run inv (hw2 hg) he (hok.imp id fun h => wrapG_ok h hg) w' (hw' hg)
        · refine .inr ⟨?_, wrapG_ev_false hg⟩
          cases hwd : Region.wanted o (yielded ops a.tmps) with
          | false => rfl
          | true => exact absurd (hw1.1 hwd) hg
      have hadd : draw = true → PrRel (prAdd draw i e ge st.pr) ((i, fun w' => gHolds ge env w → Holds1 e env w w') :: Pr) env w := fun hdr => by
        have := (hpr hdr).add i e ge
        rw [hdr]; exact this
      split at hgo
      case h_1 hdst =>
        split at hgo
        case h_2 => cases hgo
        case h_1 s1 hs1 =>
        cases hgo
        obtain ⟨hok, hwp1⟩ := mkChkO_wp hwp
        refine main s1 hok ?_
        rw [hdst]
        exact go_sound hd rest _ s1 env w a _ hs1 hwp1 ⟨inv.ag, inv.m⟩ hadd hL
      case h_2 t hdst =>
        split at hgo
        case isFalse => cases hgo
        case isTrue ht =>
        split at hgo
        case isTrue hl =>
          split at hgo
          case h_1 => cases hgo
          case h_2 lm st1 hmat =>
          split at hgo
          case isTrue => cases hgo
          case isFalse hment =>
          split at hgo
          case h_2 => cases hgo
          case h_1 s1 hs1 =>
          cases hgo
          obtain ⟨hok, hwp1⟩ := mkChkO_wp hwp
          refine main s1 hok ?_
          rw [hdst]
          have inv0 : Inv ⟨st.lv, st.m, prAdd draw i e ge st.pr⟩ n env w a := ⟨inv.ag, inv.m⟩
          obtain ⟨env', h1, h2, h3, h4, h5⟩ := matS_ok (draw := draw) _ _ _ _ _ _ hmat hwp1 inv0 hadd
          simp only [S.wp] at h1
          rw [h5 _ (by simpa using hment)] at h1
          exact go_sound hd rest _ s1 _ w _ _ hs1 h1 (h2.put_set ht _ _) (fun hdr => (h3 hdr).cut t _) (fun t' ht' => consO_mem.2 (.inr (h4 t' (hL t' ht'))))
        case isFalse hl =>
          split at hgo
          case isTrue => cases hgo
          case isFalse hgt =>
          split at hgo
          case h_2 => cases hgo
          case h_1 s1 hs1 =>
          cases hgo
          obtain ⟨hok, hwp1⟩ := mkChkO_wp hwp
          refine main s1 hok ?_
          rw [hdst]
          simp only [Bool.or_eq_true, not_or, Bool.not_eq_true] at hl
          refine go_sound hd rest _ s1 env w _ _ hs1 hwp1 (inv.put_new ht hl.1 rfl _ ?_) hadd hL
          have hts : t < a.tmps.size := by rw [inv.ag.size]; exact ht
          unfold EntOk
          cases cur with
          | none =>
            simp only [guardE, Option.some.injEq] at hge
            subst hge
            show (a.put (some t) _).tmps.getD t undef = _
            simp only [Act.put]
            rw [getD_set_self _ _ hts]
            rfl
          | some p =>
            obtain ⟨tg, want⟩ := p
            obtain ⟨eg, rfl, heg⟩ := guardE_ok inv hge
            have hne : tg ≠ t := by
              intro e'; subst e'; simp [gIs] at hgt
            simp only [Option.map_some, Option.getD_some]
            have e1 : (a.put (some t) ((wrapG (some (eg, want)) e).ev env w)).tmps.getD tg undef = a.tmps.getD tg undef := getD_set_other _ _ hne
            have e2 : (a.put (some t) ((wrapG (some (eg, want)) e).ev env w)).tmps.getD t undef = (wrapG (some (eg, want)) e).ev env w := getD_set_self _ _ hts
            rw [e1, e2]
            refine ⟨heg, ?_⟩
            simp only [wrapG, E.ev, heg]
    · have hq' : q i = false := by simpa using hq
      simp only [hq', Bool.false_eq_true, if_false] at hgo ⊢
      split at hgo
      case h_1 => cases hgo
      case h_2 l hl =>
      split at hgo
      case isFalse => cases hgo
      case isTrue hdn =>
      split at hgo
      case h_1 => cases hgo
      case h_2 s1 hs1 =>
      have hdt : ∀ t, o.dst = some t → t < n := fun t ht => by rw [ht] at hdn; simpa [dOk] using hdn
      have hL' : ∀ t ∈ L, t ∈ consO o.dst st.lv := fun t ht => by
        cases hdst : o.dst with
        | none => exact hL t ht
        | some t' => exact consO_mem.2 (.inr (hL t ht))
      -- what follows the effect
      have after : ∀ v w', promsOk (l.filter fun p => !bf p.i i) env w w' → s1.wp P Q (updo env o.dst v) w' →
          (∀ p ∈ keep bf i Pr, p.2 w') ∧ wpS P ops (QR L n (k.wp P Q)) bf q rest (keep bf i Pr) (a.put o.dst v) w' := by
        intro v w' hp hwp1
        by_cases hdr : draw = true
        · have h1 := hpr hdr
          rw [hl] at h1
          obtain ⟨h2, h3⟩ := h1.keep bf i hp
          refine ⟨h2, go_sound hd rest _ s1 _ w' _ _ hs1 hwp1 (inv.eff o.dst hdt v w' _) (fun _ => ?_) hL'⟩
          cases hdst : o.dst with
          | none => exact h3
          | some t => exact h3.cut t v
        · have hbf := hd (by simpa using hdr)
          have hk : keep bf i Pr = [] := by simp [keep, hbf]
          rw [hk]
          exact ⟨fun p hp => (by cases hp), go_sound hd rest _ s1 _ w' _ _ hs1 hwp1 (inv.eff o.dst hdt v w' _) (fun h => absurd h hdr) hL'⟩
      unfold wpOp
      simp only [ho]
      cases hwd : Region.wanted o (yielded ops a.tmps) with
      | true =>
        have hg := hw1.1 hwd
        cases ge with
        | none => exact .inl (effS_sound hgo hwp (fun x ex hx => rd_ok inv (hw2 hg) (sat_none a) hx) after)
        | some p =>
          obtain ⟨g, want⟩ := p
          simp only at hgo
          split at hgo
          case h_1 => cases hgo
          case h_2 s2 hs2 =>
          cases hgo
          exact .inl (effS_sound hs2 (hwp.1 hg) (fun x ex hx => rd_ok inv (hw2 hg) (sat_none a) hx) after)
      | false =>
        have hg : ¬ gHolds ge env w := fun h => by rw [hw1.2 h] at hwd; cases hwd
        cases ge with
        | none => exact absurd trivial hg
        | some p =>
          obtain ⟨g, want⟩ := p
          simp only at hgo
          split at hgo
          case h_1 => cases hgo
          case h_2 s2 hs2 =>
          cases hgo
          have hf : isBool (g.ev env w) want = false := by
            simp only [gHolds] at hg
            simpa using hg
          have h2 := hwp.2 hf
          have h3 : s1.wp P Q (updo env o.dst undef) w := by
            cases hdst : o.dst with
            | none => rw [hdst] at h2; exact h2
            | some t => rw [hdst] at h2; exact h2
          have hself : promsOk (l.filter fun p => !bf p.i i) env w w := by
            have : ∀ (l : List PrE), promsOk l env w w := fun l => by
              induction l with
              | nil => trivial
              | cons x r ih => exact ⟨fun _ j _ => rfl, ih⟩
            exact this _
          exact after undef w hself h3

/-! ### Which comes before which -/
def bfOf (bfl : List (List Nat)) (i j : Nat) : Bool := (bfl.getD j []).contains i

def bfStep (acc : List (List Nat)) (o : Oper) : List Nat :=
  o.after.toList.foldl (fun s e => if Region.binds .any e && decide (e.on < acc.length) then (e.on :: acc.getD e.on []).foldl (fun s x => if s.contains x then s else x :: s) s else s) []

def bfList (ops : List Oper) (acc : List (List Nat)) : List (List Nat) :=
  match ops with
  | [] => acc
  | o :: r => bfList r (acc ++ [bfStep acc o])

def bfChk (ops : Array Oper) (bfl : List (List Nat)) : Bool :=
  decide (bfl.length ≤ ops.size) && (List.range bfl.length).all fun j => match ops[j]? with
    | none => false
    | some oj => (bfl.getD j []).all fun i => oj.after.any fun e => Region.binds .any e && decide (e.on < j) && (e.on == i || bfOf bfl i e.on)

theorem bfChk_ok {bfl : List (List Nat)} (h : bfChk ops bfl = true) : BfOk ops (bfOf bfl) := by
  intro i j hij
  simp only [bfChk, Bool.and_eq_true, decide_eq_true_eq, List.all_eq_true, List.mem_range] at h
  have hj : j < bfl.length := by
    rcases Nat.lt_or_ge j bfl.length with h' | h'
    · exact h'
    · have h0 : bfOf bfl i j = false := by simp [bfOf, h']
      rw [h0] at hij; cases hij
  have h1 := h.2 j hj
  cases ho : ops[j]? with
  | none => simp only [ho] at h1; cases h1
  | some oj =>
    simp only [ho, List.all_eq_true] at h1
    have h2 := h1 i (by simpa [bfOf] using hij)
    obtain ⟨e, he, hb⟩ := Array.any_eq_true'.1 h2
    simp only [Bool.and_eq_true, Bool.or_eq_true, beq_iff_eq, decide_eq_true_eq] at hb
    exact ⟨oj, rfl, e, he, hb.1.1, hb.1.2, hb.2⟩

def altOf : List Sched → Sched
  | [] => .nil
  | [s] => s
  | s :: r => .alt s (altOf r)

def Sched.hasAlt : Sched → Bool
  | .nil => false
  | .op _ r => r.hasAlt
  | .alt _ _ => true

def sch (ops : Array Oper) (q : Nat → Bool) : Nat → Array Bool → Sched
  | 0, _ => .nil
  | f + 1, listed =>
    let rs := Region.ready .any ops listed
    match rs.find? fun i => q i && Region.free .any ops listed i with
    | some i => .op i (sch ops q f (listed.setIfInBounds i true))
    | none => altOf (rs.map fun i => .op i (sch ops q f (listed.setIfInBounds i true)))

def qOf (P : Program) (ops : Array Oper) (i : Nat) : Bool :=
  match ops[i]? with
  | some o => quietOp P o.op
  | none => false

def matOf (P : Program) (ops : Array Oper) : Bool := ops.any fun o => !quietOp P o.op

def compD (P : Program) (L : List Nat) (n : Nat) (ops : Array Oper) (sched : Sched) (k : S) : Option S :=
  if P.follows .mixedOrders && bfChk ops (bfList ops.toList []) && Region.noSelect ops && chkSched ops (qOf P ops) false sched ops.size (Array.replicate ops.size false) then
    match go P ops (qOf P ops) (bfOf (bfList ops.toList [])) true (matOf P ops) n k sched ⟨L, [], some []⟩ with
    | some s => some (.draw s)
    | none => none
  else none

def compR (P : Program) (L : List Nat) (n : Nat) (ops : Array Oper) (draw : Bool) (k : S) : Option S :=
  if draw then
    if (sch ops (qOf P ops) ops.size (Array.replicate ops.size false)).hasAlt then
      match compD P L n ops (sch ops (qOf P ops) ops.size (Array.replicate ops.size false)) .nil with
      | some s => some (.sq s k)
      | none => none
    else compD P L n ops (sch ops (qOf P ops) ops.size (Array.replicate ops.size false)) k
  else go P ops (qOf P ops) (fun _ _ => true) false (matOf P ops) n k (schedOf (List.range ops.size)) ⟨L, [], some []⟩

theorem compD_sound {L : List Nat} {n id : Nat} {sched : Sched} {k s : S} {Q : Exit → Env → World → Prop} {env : Env} {w : World} {a : Act} (h : compD P L n ops sched k = some s) (hwp : s.wp P Q env w) (hag : Agree L n env a) :
    (Code.region id ops true).wp P (QR L n (k.wp P Q)) a w := by
  unfold compD at h
  split at h
  case isFalse => cases h
  case isTrue hc =>
  simp only [Bool.and_eq_true] at hc
  obtain ⟨⟨⟨h1, h2⟩, h3⟩, h5⟩ := hc
  split at h
  case h_2 => cases h
  case h_1 s1 hs1 =>
  cases h
  refine region_draw h1 (bfChk_ok h2) h3 (fun _ _ _ h => h) h5 ?_
  have inv' : Inv ⟨L, [], some []⟩ n env w.drew a := ⟨hag, fun _ h => by cases h⟩
  exact go_sound (fun h => by cases h) _ _ s1 env w.drew a [] hs1 hwp inv' (fun _ l _ p hp => by cases hp) (fun t ht => ht)

theorem compR_sound {L : List Nat} {n id : Nat} {draw : Bool} {k s : S} {Q : Exit → Env → World → Prop} {env : Env} {w : World} {a : Act} (h : compR P L n ops draw k = some s) (hwp : s.wp P Q env w) (hag : Agree L n env a) :
    (Code.region id ops draw).wp P (QR L n (k.wp P Q)) a w := by
  have inv : Inv ⟨L, [], some []⟩ n env w a := ⟨hag, fun _ h => by cases h⟩
  unfold compR at h
  cases draw with
  | true =>
    simp only [if_true] at h
    split at h
    case isTrue =>
      split at h
      case h_2 => cases h
      case h_1 s1 hs1 =>
      cases h
      simp only [S.wp] at hwp
      exact compD_sound (Q := thn (k.wp P Q) Q) (id := id) hs1 hwp hag
    case isFalse => exact compD_sound h hwp hag
  | false =>
    simp only [Bool.false_eq_true, if_false] at h
    exact region_plain (go_sound (fun _ _ _ => rfl) _ _ s env w a [] h hwp inv (fun h => by cases h) (fun t ht => ht))

/-! ### Code -/
def condE (L : List Nat) : Operand → Option E
  | .tmp t => if L.contains t then some (.vr t) else none
  | .const v => some (.cn v)
  | _ => none

def comp (P : Program) (L : List Nat) (n : Nat) : Code → S → Option S
  | .skip, k => some k
  | .label _, k => some k
  | .region _ ops draw, k => compR P L n ops draw k
  | .seq a b, k => match comp P L n b k with
    | some sb => comp P L n a sb
    | none => none
  | .cond c x y, k => match condE L c, comp P L n x .nil, comp P L n y .nil with
    | some e, some sx, some sy => some (.ite e sx sy k)
    | _, _, _ => none
  | .block id c, k => match comp P L n c .nil with
    | some s => some (.blk id s k)
    | none => none
  | .loop c, _ => match comp P L n c .nil with
    | some s => some (.loop s)
    | none => none
  | .exit id, _ => some (.exit id)
  | .ret, _ => some .ret
  | _, _ => none

def LQ (L : List Nat) (n : Nat) (T : Exit → Env → World → Prop) : Exit → Act → World → Prop := fun x a w => ∃ env, Agree L n env a ∧ T x env w

theorem wp_loop_g {Q : Exit → Act → World → Prop} {c : Code} (I : Nat → Act → World → Prop) {n : Nat} {a : Act} {w : World} (h₀ : I n a w)
    (round : ∀ n a w, I n a w → c.wp P (Exit.then (fun a' w' => ∃ m, m < n ∧ I m a' w') Q) a w) : (Code.loop c).wp P Q a w := by
  intro b k cs
  have key : ∀ n a w, I n a w →
      ∃ e a' w', Q e a' w' ∧ Arrives P (lone (b.at a (.code c :: .inLoop c :: k)) cs w) b k cs e a' w' := by
    intro n
    induction n using Nat.strongRecOn with
    | _ n ih =>
      intro a w hI
      obtain ⟨e, a₁, w₁, hq, harr⟩ := round n a w hI b (.inLoop c :: k) cs
      cases e with
      | normal =>
        obtain ⟨m, hlt, hI₁⟩ := hq
        obtain ⟨e₂, a₂, w₂, hq₂, harr₂⟩ := ih m hlt a₁ w₁ hI₁
        exact ⟨e₂, a₂, w₂, hq₂, .of_steps (Steps.trans harr (.one step_inLoop)) harr₂⟩
      | exit id => exact ⟨_, a₁, w₁, hq, .pass (x := .inLoop c) rfl (fun _ _ => .inl (by simp)) harr⟩
      | goto l => exact ⟨_, a₁, w₁, hq, .pass (x := .inLoop c) rfl (fun _ _ => .inl (by simp)) harr⟩
      | ret => exact ⟨_, a₁, w₁, hq, .pass (x := .inLoop c) rfl (fun _ _ => .inl (by simp)) harr⟩
      | panic ch => exact ⟨_, a₁, w₁, hq, .pass (x := .inLoop c) rfl (fun _ _ => .inl (by simp)) harr⟩
      | outgrown => exact ⟨_, a₁, w₁, hq, .pass (x := .inLoop c) rfl (fun _ _ => .inl (by simp)) harr⟩
  obtain ⟨e, a', w', hq, harr⟩ := key n a w h₀
  exact ⟨e, a', w', hq, .of_steps (.one step_loop) harr⟩

theorem condE_ok {L : List Nat} {n : Nat} {c : Operand} {e : E} {env : Env} {w : World} {a : Act} (h : condE L c = some e) (hag : Agree L n env a) : a.eval c = e.ev env w := by
  cases c with
  | tmp t =>
    simp only [condE] at h
    split at h
    · cases h; exact hag.eq t (by rename_i h; simpa using h)
    · cases h
  | const v => simp only [condE, Option.some.injEq] at h; subst h; rfl
  | global _ => simp [condE] at h
  | func _ => simp [condE] at h

theorem comp_sound {L : List Nat} {n : Nat} : ∀ (c : Code) (k s : S) (Q : Exit → Env → World → Prop) (env : Env) (w : World) (a : Act), comp P L n c k = some s → s.wp P Q env w → Agree L n env a →
    c.wp P (LQ L n (thn (k.wp P Q) Q)) a w := by
  intro c
  induction c with
  | skip =>
    intro k s Q env w a h hwp hag
    simp only [comp, Option.some.injEq] at h
    subst h
    exact wp_skip ⟨env, hag, hwp⟩
  | label l =>
    intro k s Q env w a h hwp hag
    simp only [comp, Option.some.injEq] at h
    subst h
    exact wp_label ⟨env, hag, hwp⟩
  | region id ops draw =>
    intro k s Q env w a h hwp hag
    simp only [comp] at h
    refine wp_mono (compR_sound h hwp hag) fun e a' w' hq => ?_
    cases e with
    | normal => exact hq
    | _ => exact hq.elim
  | seq x y ihx ihy =>
    intro k s Q env w a h hwp hag
    simp only [comp] at h
    split at h
    case h_2 => cases h
    case h_1 sb hsb =>
    refine wp_seq (wp_mono (ihx sb s Q env w a h hwp hag) fun e a' w' hq => ?_)
    obtain ⟨env', hag', hq⟩ := hq
    cases e with
    | normal => exact ihy k sb Q env' w' a' hsb hq hag'
    | _ => exact ⟨env', hag', hq⟩
  | cond c x y ihx ihy =>
    intro k s Q env w a h hwp hag
    simp only [comp] at h
    split at h
    case h_2 => cases h
    case h_1 e sx sy he hsx hsy =>
    cases h
    obtain ⟨hb, ht, hf⟩ := hwp
    obtain ⟨b, hb⟩ := isB_cases hb
    have hev := (condE_ok (w := w) he hag).trans hb
    have fin : ∀ (e : Exit) (a' : Act) (w' : World), LQ L n (thn (S.nil.wp P (thn (k.wp P Q) Q)) (thn (k.wp P Q) Q)) e a' w' → LQ L n (thn (k.wp P Q) Q) e a' w' := by
      intro e a' w' hq
      obtain ⟨env', hag', hq⟩ := hq
      cases e <;> exact ⟨env', hag', hq⟩
    cases b with
    | true => exact wp_cond_true hev (wp_mono (ihx .nil sx _ env w a hsx (ht (by rw [hb]; rfl)) hag) fin)
    | false => exact wp_cond_false hev (wp_mono (ihy .nil sy _ env w a hsy (hf (by rw [hb]; rfl)) hag) fin)
  | block id c ih =>
    intro k s Q env w a h hwp hag
    simp only [comp] at h
    split at h
    case h_2 => cases h
    case h_1 s1 hs1 =>
    cases h
    refine wp_block (wp_mono (ih .nil s1 _ env w a hs1 hwp hag) fun e a' w' hq => ?_)
    obtain ⟨env', hag', hq⟩ := hq
    cases e with
    | normal => exact ⟨env', hag', hq⟩
    | exit i =>
      simp only [thn, inBlk] at hq
      simp only [Exit.inBlock]
      split
      · rename_i h; simp only [h, if_true] at hq; exact ⟨env', hag', hq⟩
      · rename_i h; simp only [h, if_false] at hq; exact ⟨env', hag', hq⟩
    | _ => exact ⟨env', hag', hq⟩
  | loop c ih =>
    intro k s Q env w a h hwp hag
    simp only [comp] at h
    split at h
    case h_2 => cases h
    case h_1 s1 hs1 =>
    cases h
    obtain ⟨I, m, hI, hround⟩ := hwp
    refine wp_loop_g (fun m a w => ∃ env, Agree L n env a ∧ I m env w) (n := m) ⟨env, hag, hI⟩ ?_
    rintro m a w ⟨env, hag, hI⟩
    refine wp_mono (ih .nil s1 _ env w a hs1 (hround m env w hI) hag) fun e a' w' hq => ?_
    obtain ⟨env', hag', hq⟩ := hq
    cases e with
    | normal => obtain ⟨m', hlt, hI'⟩ := hq; exact ⟨m', hlt, env', hag', hI'⟩
    | _ => exact ⟨env', hag', hq⟩
  | exit id =>
    intro k s Q env w a h hwp hag
    simp only [comp, Option.some.injEq] at h
    subst h
    exact wp_exit ⟨env, hag, hwp⟩
  | ret =>
    intro k s Q env w a h hwp hag
    simp only [comp, Option.some.injEq] at h
    subst h
    exact wp_ret ⟨env, hag, hwp⟩
  | _ => intro k s Q env w a h; simp [comp] at h

/-! ### A function -/
def regionUses : List Oper → List Nat → List Nat
  | [], _ => []
  | o :: r, dd => (opTmps o.op.operands.toList).filter (fun t => !dd.contains t) ++ regionUses r (o.dst.toList ++ dd)

def codeUses : Code → List Nat
  | .region _ ops _ => regionUses ops.toList []
  | .seq a b => codeUses a ++ codeUses b
  | .cond c a b => opTmps [c] ++ codeUses a ++ codeUses b
  | .block _ a => codeUses a
  | .loop a => codeUses a
  | _ => []

def resE (P : Program) (L : List Nat) : List ResultVar → Option (List E)
  | [] => some []
  | .tmp t :: r => match resE P L r with
    | some l => if L.contains t then some (.vr t :: l) else none
    | none => none
  | .cell a t :: r => match resE P L r, P.underlying t, P.info? t with
    | some l, some d, some i => if L.contains a then (if isAggD d then some (.ldn i.size (.vr a) :: l) else some (.ld (.vr a) :: l)) else none
    | _, _, _ => none

def resUses : List ResultVar → List Nat
  | [] => []
  | .tmp t :: r => t :: resUses r
  | .cell a _ :: r => a :: resUses r

/-- Several results are one tuple. -/
def pack : List Value → Value
  | [v] => v
  | l => .tuple l.toArray

structure Fc where
  n : Nat
  s : S
  es : List E

def dedup : List Nat → List Nat → List Nat
  | [], acc => acc
  | x :: r, acc => if acc.contains x then dedup r acc else dedup r (x :: acc)

def compF (P : Program) (f : FuncId) : Option Fc :=
  match P.funcs[f]? with
  | none => none
  | some fn => match fn.body with
    | none => none
    | some c =>
      let L := dedup (codeUses c ++ resUses fn.results.toList) []
      match comp P L fn.ntmps c .nil, resE P L fn.results.toList with
      | some s, some es => some ⟨fn.ntmps, s, es⟩
      | _, _ => none

def env0 (args : List Value) : Env := fun t => args.getD t undef

def oks : List E → Env → World → Prop
  | [], _, _ => True
  | e :: r, env, w => e.ok env w ∧ oks r env w

def Ret (R : Value → World → Prop) : Ending → World → Prop := fun e w => ∃ v, e = .returned v ∧ R v w

def postF (es : List E) (R : Value → World → Prop) : Exit → Env → World → Prop
  | .normal, env, w => oks es env w ∧ R (pack (evs es env w)) w
  | .ret, env, w => oks es env w ∧ R (pack (evs es env w)) w
  | _, _, _ => False

def resSem (tmps : Array Value) : ResultVar → Sem Value
  | .tmp t => pure (tmps.getD t undef)
  | .cell a t => do loadVar t (← asAddr (tmps.getD a undef))

theorem run_resList {L : List Nat} {n : Nat} {env : Env} {a : Act} (hag : Agree L n env a) (w : World) : ∀ (rs : List ResultVar) (es : List E) (acc : Array Value), resE P L rs = some es → oks es env w →
    (rs.foldlM (fun (acc : Array Value) r => do let v ← resSem a.tmps r; pure (acc.push v) : Array Value → ResultVar → Sem (Array Value)) acc).run P w = .ok (acc ++ (evs es env w).toArray) w
  | [], es, acc, h, _ => by simp only [resE, Option.some.injEq] at h; subst h; simp [run_pure, evs]
  | .tmp t :: r, es, acc, h, hok => by
    simp only [resE] at h
    split at h
    case h_2 => cases h
    case h_1 l hl =>
    split at h
    case isFalse => cases h
    case isTrue hc =>
    cases h
    have := hag.eq t (by simpa using hc)
    have h1 : (resSem a.tmps (.tmp t)).run P w = .ok (env t) w := by simp only [resSem, this, run_pure]
    simp only [List.foldlM_cons, run_bind, h1, run_pure]
    rw [run_resList hag w r l _ hl hok.2]
    simp [evs, E.ev]
  | .cell x t :: r, es, acc, h, hok => by
    simp only [resE] at h
    split at h
    case h_2 => cases h
    case h_1 l d i hl hd hi =>
    split at h
    case isFalse => cases h
    case isTrue hc =>
    have hx := hag.eq x (by simpa using hc)
    split at h
    case isTrue hagg =>
      cases h
      obtain ⟨⟨h1, h2⟩, hok⟩ := hok
      obtain ⟨ad, ha⟩ := isP_cases h1
      simp only [ha, asA] at h2
      simp only [E.ev] at ha
      have h1 : (resSem a.tmps (.cell x t)).run P w = .ok (.agg (cellsFrom w ad 0 i.size).toArray) w := by
        simp only [resSem, run_bind, hx, ha, asAddr, run_pure, loadVar, run_isAgg hd, hagg, if_true, run_sizeOf hi, loadCells]
        rw [run_loadCellsFrom ad w w i.size 0 #[] (fun j _ hj => ⟨h2 j (by omega), rfl⟩)]
        simp [run_pure]
      simp only [List.foldlM_cons, run_bind, h1, run_pure]
      rw [run_resList hag w r l _ hl hok]
      simp [evs, E.ev, ha, asA]
    case isFalse hagg =>
      cases h
      obtain ⟨⟨h1, h2⟩, hok⟩ := hok
      obtain ⟨ad, ha⟩ := isP_cases h1
      simp only [ha, asA] at h2
      obtain ⟨v, hv⟩ := Option.isSome_iff_exists.1 h2
      simp only [E.ev] at ha
      have h1 : (resSem a.tmps (.cell x t)).run P w = .ok v w := by
        simp only [resSem, run_bind, hx, ha, asAddr, run_pure, loadVar, run_isAgg hd, hagg, Bool.false_eq_true, if_false, run_load hv]
      simp only [List.foldlM_cons, run_bind, h1, run_pure]
      rw [run_resList hag w r l _ hl hok]
      simp [evs, E.ev, ha, asA, hv]

theorem run_results {fn : Func} {L : List Nat} {n : Nat} {env : Env} {a : Act} (hag : Agree L n env a) (w : World) {es : List E} (h : resE P L fn.results.toList = some es) (hok : oks es env w) :
    (results fn a.tmps).run P w = .ok (pack (evs es env w)) w := by
  have h1 : (fn.results.mapM (resSem a.tmps)).run P w = .ok (evs es env w).toArray w := by
    rw [Array.mapM_eq_foldlM, ← Array.foldlM_toList]
    have := run_resList hag w fn.results.toList es #[] h hok
    rw [Array.empty_append] at this
    rw [← this]
    congr 2
  have h2 : results fn a.tmps = (do let vs ← fn.results.mapM (resSem a.tmps); pure (if h : vs.size = 1 then vs[0] else .tuple vs)) := by
    unfold results
    congr 2
  rw [h2, run_bind, h1]
  simp only [run_pure]
  congr 1
  generalize evs es env w = l
  match l with
  | [] => rfl
  | [v] => rfl
  | _ :: _ :: _ => rfl

/-- WHAT A FUNCTION'S TRANSLATION COMES TO, THE CALL COMES TO. -/
theorem F_sound {f : FuncId} {fc : Fc} {args : List Value} {w : World} {R : Value → World → Prop} (hf : compF P f = some fc) (hn : args.length ≤ fc.n) (h : fc.s.wp P (postF fc.es R) (env0 args) w) :
    Calls P f args.toArray w (Ret R) := by
  unfold compF at hf
  split at hf
  case h_1 => cases hf
  case h_2 fn hfn =>
  split at hf
  case h_1 => cases hf
  case h_2 c hc =>
  simp only at hf
  split at hf
  case h_2 => cases hf
  case h_1 s es hs hes =>
  cases hf
  simp only at hn h
  refine calls_of_wp hfn hc ?_
  have hag : Agree (dedup (codeUses c ++ resUses fn.results.toList) []) fn.ntmps (env0 args) { tmps := args.toArray ++ Array.replicate (fn.ntmps - args.toArray.size) undef, defers := [] } := by
    refine ⟨by simp; omega, rfl, fun t _ => ?_⟩
    simp only [env0, Array.getD_eq_getD_getElem?, List.getD_eq_getElem?_getD]
    by_cases ht : t < args.length
    · simp [Array.getElem?_append, ht]
    · simp only [Array.getElem?_append, List.size_toArray, ht, if_false, List.getElem?_eq_none (Nat.le_of_not_lt ht), Option.getD_none]
      by_cases h2 : t - args.length < fn.ntmps - args.length
      · simp [h2]
      · simp [h2]
  refine wp_mono (comp_sound c .nil s _ _ _ _ hs h hag) fun e a' w' hq => ?_
  obtain ⟨env', hag', hq⟩ := hq
  cases e with
  | normal => exact ⟨hag'.defers, _, run_results hag' w' hes hq.1, _, rfl, hq.2⟩
  | ret => exact ⟨hag'.defers, _, run_results hag' w' hes hq.1, _, rfl, hq.2⟩
  | _ => exact hq.elim

end
/-- So many zeros. -/
def zagg (n : Nat) : Value := .agg (Array.replicate n (.int .i64 0))

end Go.Proofs.Ytgjnfajdejkkjaa.VG
