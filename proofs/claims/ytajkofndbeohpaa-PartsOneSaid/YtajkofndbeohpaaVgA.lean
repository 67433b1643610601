/-
  VG, part A: values read as numbers, bools, addresses; the nodes of expressions, what each yields and when; that the model's operation does just that. Over any program.
-/
import Derived.OrdersHeld
import Derived.KernelRfl
namespace Go.Proofs.Ytajkofndbeohpaa.VG
open Go
set_option linter.unusedSimpArgs false
set_option linter.unusedVariables false

def asI : Value → Int | .int _ n => n | _ => 0
def asB : Value → Bool | .bool b => b | _ => false
def asA : Value → Addr | .pointer (some a) => a | _ => default
def asS : Value → ByteArray | .string s => s | _ => ByteArray.empty
def isI (k : IntKind) : Value → Prop | .int k' _ => k' = k | _ => False
def isInt : Value → Prop | .int _ _ => True | _ => False
def isB : Value → Prop | .bool _ => True | _ => False
def isP : Value → Prop | .pointer (some _) => True | _ => False
def isPtr : Value → Prop | .pointer _ => True | _ => False
def isS : Value → Prop | .slice _ _ _ => True | _ => False
def isStr : Value → Prop | .string _ => True | _ => False
def isAg : Value → Prop | .agg _ => True | _ => False
def isTu : Value → Prop | .tuple _ => True | _ => False
def slA : Value → Option Addr | .slice a _ _ => a | _ => none
def slL : Value → Nat | .slice _ n _ => n | _ => 0
def slC : Value → Nat | .slice _ _ n => n | _ => 0
def agC : Value → Array Value | .agg cs => cs | _ => #[]
def tuC : Value → Array Value | .tuple vs => vs | _ => #[]
def notNil : Value → Prop | .pointer (some _) => True | .func (.func _) _ _ => True | _ => False
def ptrNil : Value → Bool | .pointer none => true | _ => false
def slNil : Value → Bool | .slice none _ _ => true | _ => false

theorem add_mk (b o n : Nat) : (⟨b, o, none⟩ : Addr).add n = ⟨b, o + n, none⟩ := by
  unfold Addr.add; split <;> simp_all

def arith : BinOp → Int → Int → Int
  | .add, x, y => x + y
  | .sub, x, y => x - y
  | _, x, y => x * y

def bitw (op : BinOp) (k : IntKind) (x y : Int) : Int :=
  match op with
  | .and => k.wrap (BitVec.ofInt k.bits x &&& BitVec.ofInt k.bits y).toNat
  | .or => k.wrap (BitVec.ofInt k.bits x ||| BitVec.ofInt k.bits y).toNat
  | .xor => k.wrap (BitVec.ofInt k.bits x ^^^ BitVec.ofInt k.bits y).toNat
  | _ => k.wrap (BitVec.ofInt k.bits x &&& ~~~(BitVec.ofInt k.bits y)).toNat

def shl (k : IntKind) (x y : Int) : Int := k.wrap (x * 2 ^ (min y.toNat k.bits))
def shr (k : IntKind) (x y : Int) : Int := x.fdiv (2 ^ (min y.toNat k.bits))

def cmpi : BinOp → Int → Int → Bool
  | .eql, x, y => x == y
  | .neq, x, y => x != y
  | .lss, x, y => decide (x < y)
  | .leq, x, y => decide (x ≤ y)
  | .gtr, x, y => decide (x > y)
  | _, x, y => decide (x ≥ y)

/-! ### Nodes of one operand -/
inductive U where
  | not | neg (k : IntKind) | cpl (k : IntKind) | cv (k : IntKind)
  | nck | fa (off : Nat) | fe1 (off : Nat) | feN (off n : Nat) | ex (i : Nat)
  | ln | cp | lnS | kst (n : Int) | pnil (neg : Bool) | snil (neg : Bool)

def U.val : U → Value → Value
  | .not, v => .bool (!asB v)
  | .neg k, v => .int k (k.wrap (0 - asI v))
  | .cpl k, v => .int k (bitw .xor k (if k.signed then -1 else k.max) (asI v))
  | .cv k, v => .int k (k.wrap (asI v))
  | .nck, v => v
  | .fa off, v => .pointer (some ((asA v).add off))
  | .fe1 off, v => (agC v).getD off undef
  | .feN off n, v => .agg ((agC v).extract off (off + n))
  | .ex i, v => (tuC v).getD i undef
  | .ln, v => .int .i64 (slL v)
  | .cp, v => .int .i64 (slC v)
  | .lnS, v => .int .i64 (asS v).size
  | .kst n, _ => .int .i64 n
  | .pnil b, v => .bool (ptrNil v != b)
  | .snil b, v => .bool (slNil v != b)

def U.ok : U → Value → Prop
  | .not, v => isB v
  | .neg k, v => isI k v
  | .cpl k, v => isI k v
  | .cv _, v => isInt v
  | .nck, v => notNil v
  | .fa _, v => isP v
  | .fe1 off, v => isAg v ∧ off < (agC v).size
  | .feN _ _, v => isAg v
  | .ex i, v => isTu v ∧ i < (tuC v).size
  | .ln, v => isS v
  | .cp, v => isS v
  | .lnS, v => isStr v
  | .kst _, _ => True
  | .pnil _, v => isPtr v
  | .snil _, v => isS v

def isAggD : TypeDesc → Bool
  | .struct _ | .array _ _ => true
  | _ => false

def cmpOp : BinOp → Bool
  | .eql | .neq | .lss | .leq | .gtr | .geq => true
  | _ => false

/-- The node of an operation of one operand. -/
def cU (P : Program) (o : Op) : Option (U × Operand) :=
  match o with
  | .unOp .not _ x => some (.not, x)
  | .unOp .neg t x => match P.underlying t with | some (.int k) => some (.neg k, x) | _ => none
  | .unOp .xor t x => match P.underlying t with | some (.int k) => some (.cpl k, x) | _ => none
  | .convert s d x => match P.underlying s, P.underlying d with | some (.int _), some (.int k) => some (.cv k, x) | _, _ => none
  | .nilCheck x => some (.nck, x)
  | .fieldAddr s x f => match P.underlying s with
    | some (.struct fs) => match fs[f]? with
      | some fl => match P.info? fl.type with
        | some i => if i.size = 0 then none else some (.fa fl.offset, x)
        | none => none
      | none => none
    | _ => none
  | .field s x f => match P.underlying s with
    | some (.struct fs) => match fs[f]? with
      | some fl => match P.underlying fl.type, P.info? fl.type with
        | some (.struct _), some i => some (.feN fl.offset i.size, x)
        | some (.array _ _), some i => some (.feN fl.offset i.size, x)
        | some _, some _ => some (.fe1 fl.offset, x)
        | _, _ => none
      | none => none
    | _ => none
  | .extract x i => some (.ex i, x)
  | .call { callee := .builtin .len, args, argTypes } =>
    match args[0]?, argTypes[0]? with
    | some x, some t => match P.underlying t with
      | some (.slice _) => some (.ln, x)
      | some .string => some (.lnS, x)
      | some (.array n _) => some (.kst n, x)
      | _ => none
    | _, _ => none
  | .call { callee := .builtin .cap, args, argTypes } =>
    match args[0]?, argTypes[0]? with
    | some x, some t => match P.underlying t with
      | some (.slice _) => some (.cp, x)
      | _ => none
    | _, _ => none
  | .binOp .eql t x (.const (.pointer none)) _ => match P.underlying t with | some (.pointer _) => some (.pnil false, x) | _ => none
  | .binOp .neq t x (.const (.pointer none)) _ => match P.underlying t with | some (.pointer _) => some (.pnil true, x) | _ => none
  | .binOp .eql t x (.const (.slice none 0 0)) _ => match P.underlying t with | some (.slice _) => some (.snil false, x) | _ => none
  | .binOp .neq t x (.const (.slice none 0 0)) _ => match P.underlying t with | some (.slice _) => some (.snil true, x) | _ => none
  | _ => none

section
variable {P : Program}

theorem run_bind {α β : Type} (x : Sem α) (f : α → Sem β) (w : World) : (x >>= f).run P w = match x.run P w with | .ok a w' => (f a).run P w' | .halt h w' => .halt h w' := by
  have : ∀ (x : Sem α) (w : World), (Sem.bind x f).run P w = match x.run P w with | .ok a w' => (f a).run P w' | .halt h w' => .halt h w' := by
    intro x
    induction x with
    | pure a => intro w; simp [Sem.bind, Sem.run]
    | load m a k ih => intro w; simp only [Sem.bind, Sem.run]; (repeat' split) <;> simp_all
    | store m a v k ih =>
      intro w
      cases v <;> simp only [Sem.bind, Sem.run] <;> first | (simp; done) | ((repeat' split) <;> simp_all)
    | new o k ih => intro w; simp [Sem.bind, Sem.run, ih]
    | shape r k ih => intro w; simp [Sem.bind, Sem.run, ih]
    | freeze a n k ih => intro w; simp [Sem.bind, Sem.run, ih]
    | frozen a k ih => intro w; simp [Sem.bind, Sem.run, ih]
    | getObj r k ih => intro w; simp only [Sem.bind, Sem.run]; split <;> simp_all
    | setObj r o k ih => intro w; simp only [Sem.bind, Sem.run]; split <;> simp_all
    | choose q k ih => intro w; simp only [Sem.bind, Sem.run]; split <;> simp_all
    | sys c k ih => intro w; simp [Sem.bind, Sem.run, ih]
    | program k ih => intro w; simp [Sem.bind, Sem.run, ih]
    | mark m k ih => intro w; simp [Sem.bind, Sem.run, ih]
    | halt h => intro w; simp [Sem.bind, Sem.run]
  exact this x w

theorem run_pure {α : Type} (a : α) (w : World) : (pure a : Sem α).run P w = .ok a w := rfl
theorem run_program (w : World) : program.run P w = .ok P w := rfl
theorem run_underlying {t : TypeId} {d : TypeDesc} (h : P.underlying t = some d) (w : World) : (underlying t).run P w = .ok d w := by
  unfold underlying; simp [run_bind, run_program, h, run_pure]
theorem run_typeInfo {t : TypeId} {d : TypeInfo} (h : P.info? t = some d) (w : World) : (typeInfo t).run P w = .ok d w := by
  unfold typeInfo; simp [run_bind, run_program, h, run_pure]
theorem run_sizeOf {t : TypeId} {d : TypeInfo} (h : P.info? t = some d) (w : World) : (sizeOf t).run P w = .ok d.size w := by
  unfold sizeOf; simp [run_bind, run_typeInfo h, run_pure]
theorem run_zeroValue {t : TypeId} {d : TypeInfo} {z : Value} (h : P.info? t = some d) (hz : d.zero = some z) (w : World) : (zeroValue t).run P w = .ok z w := by
  unfold zeroValue; simp [run_bind, run_typeInfo h, hz, run_pure]


theorem run_isAgg {t : TypeId} {d : TypeDesc} (h : P.underlying t = some d) (w : World) : (isAgg t).run P w = .ok (isAggD d) w := by
  unfold isAgg; rw [run_bind, run_underlying h]; cases d <;> rfl

theorem getD_of_lt (cs : Array Value) (i : Nat) (h : i < cs.size) : cs[i]? = some (cs.getD i undef) := by
  simp [h]

theorem equal_ptr {t e : TypeId} (hu : P.underlying t = some (.pointer e)) (a : Option Addr) (w : World) : (Op.equal t (.pointer a) (.pointer none)).run P w = .ok a.isNone w := by
  unfold Op.equal Op.maxDepth
  rw [Op.equalIn, run_bind, run_underlying hu]
  cases a <;> rfl
theorem equal_sl {t e : TypeId} (hu : P.underlying t = some (.slice e)) (a : Option Addr) (n c : Nat) (w : World) : (Op.equal t (.slice a n c) (.slice none 0 0)).run P w = .ok a.isNone w := by
  unfold Op.equal Op.maxDepth
  rw [Op.equalIn, run_bind, run_underlying hu]
  cases a <;> rfl
theorem run_pnil {t e : TypeId} (hu : P.underlying t = some (.pointer e)) (v : Value) (h : isPtr v) (x y : Operand) (w : World) :
    (do let r ← (do eqGuard .eql t x y v (.pointer none); binOp .eql t v (.pointer none)); pure (Next.value r) : Sem Next).run P w = .ok (.value (.bool (ptrNil v != false))) w := by
  cases v with
  | pointer a =>
    have e : (eqGuard .eql t x y (.pointer a) (.pointer none)).run P w = .ok () w := rfl
    rw [run_bind, run_bind, e]
    simp only [binOp, run_bind, equal_ptr hu, run_pure]
    cases a <;> rfl
  | _ => exact h.elim
theorem run_pnil' {t e : TypeId} (hu : P.underlying t = some (.pointer e)) (v : Value) (h : isPtr v) (x y : Operand) (w : World) :
    (do let r ← (do eqGuard .neq t x y v (.pointer none); binOp .neq t v (.pointer none)); pure (Next.value r) : Sem Next).run P w = .ok (.value (.bool (ptrNil v != true))) w := by
  cases v with
  | pointer a =>
    have e : (eqGuard .neq t x y (.pointer a) (.pointer none)).run P w = .ok () w := rfl
    rw [run_bind, run_bind, e]
    simp only [binOp, run_bind, equal_ptr hu, run_pure]
    cases a <;> rfl
  | _ => exact h.elim
theorem run_snil {t e : TypeId} (hu : P.underlying t = some (.slice e)) (v : Value) (h : isS v) (x y : Operand) (w : World) :
    (do let r ← (do eqGuard .eql t x y v (.slice none 0 0); binOp .eql t v (.slice none 0 0)); pure (Next.value r) : Sem Next).run P w = .ok (.value (.bool (slNil v != false))) w := by
  cases v with
  | slice a n c =>
    have e : (eqGuard .eql t x y (.slice a n c) (.slice none 0 0)).run P w = .ok () w := rfl
    rw [run_bind, run_bind, e]
    simp only [binOp, run_bind, equal_sl hu, run_pure]
    cases a <;> rfl
  | _ => exact h.elim
theorem run_snil' {t e : TypeId} (hu : P.underlying t = some (.slice e)) (v : Value) (h : isS v) (x y : Operand) (w : World) :
    (do let r ← (do eqGuard .neq t x y v (.slice none 0 0); binOp .neq t v (.slice none 0 0)); pure (Next.value r) : Sem Next).run P w = .ok (.value (.bool (slNil v != true))) w := by
  cases v with
  | slice a n c =>
    have e : (eqGuard .neq t x y (.slice a n c) (.slice none 0 0)).run P w = .ok () w := rfl
    rw [run_bind, run_bind, e]
    simp only [binOp, run_bind, equal_sl hu, run_pure]
    cases a <;> rfl
  | _ => exact h.elim

/-- The operation of a node of one operand yields what the node says, wherever it is carried out. -/
theorem cU_run {o : Oper} {n : U} {x : Operand} (h : cU P o.op = some (n, x)) (ρ : Operand → Value) (hc : ∀ v, ρ (.const v) = v) (hok : n.ok (ρ x)) (w : World) :
    (execOp ρ o).run P w = .ok (.value (n.val (ρ x))) w := by
  obtain ⟨dst, op, ty, pos, af, gd⟩ := o
  simp only [cU] at h
  split at h
  case h_1 x' =>
    cases h
    simp only [execOp, U.val]
    simp only [U.ok] at hok
    cases hv : ρ x <;> simp_all [isB, Op.unary, run_bind, run_pure, asB]
  case h_2 t x' =>
    split at h <;> cases h
    rename_i k _
    simp only [execOp, U.val]
    simp only [U.ok] at hok
    cases hv : ρ x <;> simp_all [isI, Op.unary, run_bind, run_pure, asI, Op.intArith]
  case h_3 t x' =>
    split at h <;> cases h
    rename_i k _
    simp only [execOp, U.val]
    simp only [U.ok] at hok
    cases hv : ρ x <;> simp_all [isI, Op.unary, run_bind, run_pure, asI, Op.intBits, bitw]
  case h_4 s d x' =>
    split at h <;> cases h
    rename_i k0 k h1 h2
    simp only [execOp, U.val]
    simp only [U.ok] at hok
    cases hv : ρ x <;> simp_all [isInt, convert, run_bind, run_underlying h1, run_underlying h2, run_pure, asI, Conv.intToInt]
  case h_5 x' =>
    cases h
    simp only [execOp, U.val]
    simp only [U.ok] at hok
    cases hv : ρ x <;> simp_all [notNil, run_pure]
    · rename_i a; cases a <;> simp_all [notNil, run_pure]
    · rename_i fn _ _; cases fn <;> simp_all [notNil, run_pure]
  case h_6 s x' f =>
    split at h
    case h_1 fs hs =>
      split at h
      case h_1 fl hf =>
        split at h
        case h_1 i hi =>
          split at h
          · cases h
          · cases h
            rename_i hne
            simp only [execOp, U.val]
            simp only [U.ok] at hok
            cases hv : ρ x <;> simp_all [isP]
            rename_i a
            cases a <;> simp_all [isP, Instr.fieldAt, run_bind, run_underlying hs, hf, Instr.sureAddr, run_pure, fieldPlace, run_sizeOf hi, hne, asA]
        case h_2 => cases h
      case h_2 => cases h
    case h_2 => cases h
  case h_7 s x' f =>
    split at h
    case h_1 fs hs =>
      split at h
      case h_1 fl hf =>
        split at h
        case h_1 i fs' hu hi =>
          cases h
          simp only [execOp, U.val]
          simp only [U.ok] at hok
          cases hv : ρ x <;> simp_all [isAg]
          simp [Instr.field, run_bind, run_underlying hs, hf, asAgg, run_pure, part, run_isAgg hu, isAggD, run_sizeOf hi, agC]
        case h_2 i a b hu hi =>
          cases h
          simp only [execOp, U.val]
          simp only [U.ok] at hok
          cases hv : ρ x <;> simp_all [isAg]
          simp [Instr.field, run_bind, run_underlying hs, hf, asAgg, run_pure, part, run_isAgg hu, isAggD, run_sizeOf hi, agC]
        case h_3 d i h1 h2 hu hi =>
          cases h
          simp only [execOp, U.val]
          simp only [U.ok] at hok
          have e : isAggD d = false := by cases d <;> first | rfl | exact (h1 _ rfl).elim | exact (h2 _ _ rfl).elim
          generalize ρ x = v at *
          cases v with
          | agg cs =>
            have hlt := hok.2
            simp only [agC] at hlt
            simp [Instr.field, run_bind, run_underlying hs, hf, asAgg, run_pure, part, run_isAgg hu, e, agC, hlt]
          | _ => exact hok.1.elim
        case h_4 => cases h
      case h_2 => cases h
    case h_2 => cases h
  case h_8 x' i =>
    cases h
    simp only [execOp, U.val]
    simp only [U.ok] at hok
    generalize ρ x = v at *
    cases v with
    | tuple vs =>
      have hlt := hok.2
      simp only [tuC] at hlt
      simp [Instr.extract, run_bind, run_pure, tuC, hlt]
    | _ => exact hok.1.elim
  case h_9 args argTypes =>
    split at h
    case h_1 x' t hx ht =>
      have h0 : (args.map ρ)[0]? = some (ρ x') := by simp [hx]
      split at h <;> cases h
      all_goals
        rename_i hu
        simp only [U.ok] at hok
        simp only [execOp, resolve, invoke, builtin, run_bind, run_pure, Builtin.len_, ht, h0, run_underlying hu, U.val]
      · cases hv : ρ x <;> simp_all [isS, run_pure, goInt, slL]
      · cases hv : ρ x <;> simp_all [isStr, run_pure, goInt, asS]
      · simp [run_pure, goInt]
    case h_2 => cases h
  case h_10 args argTypes =>
    split at h
    case h_1 x' t hx ht =>
      have h0 : (args.map ρ)[0]? = some (ρ x') := by simp [hx]
      split at h <;> cases h
      rename_i hu
      simp only [U.ok] at hok
      simp only [execOp, resolve, invoke, builtin, run_bind, run_pure, Builtin.cap_, ht, h0, run_underlying hu, U.val]
      cases hv : ρ x <;> simp_all [isS, run_pure, goInt, slC]
    case h_2 => cases h
  case h_11 t x' ty' =>
    split at h <;> cases h
    rename_i e hu
    simp only [U.ok] at hok
    simp only [execOp, U.val, hc]
    exact run_pnil hu _ hok _ _ _
  case h_12 t x' ty' =>
    split at h <;> cases h
    rename_i e hu
    simp only [U.ok] at hok
    simp only [execOp, U.val, hc]
    exact run_pnil' hu _ hok _ _ _
  case h_13 t x' ty' =>
    split at h <;> cases h
    rename_i e hu
    simp only [U.ok] at hok
    simp only [execOp, U.val, hc]
    exact run_snil hu _ hok _ _ _
  case h_14 t x' ty' =>
    split at h <;> cases h
    rename_i e hu
    simp only [U.ok] at hok
    simp only [execOp, U.val, hc]
    exact run_snil' hu _ hok _ _ _
  case h_15 => cases h

end
end Go.Proofs.Ytajkofndbeohpaa.VG
