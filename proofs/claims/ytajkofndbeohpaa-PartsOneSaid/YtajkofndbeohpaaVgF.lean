/-
  VG, part F: statements, what they come to ('S.wp'), and the translation of a region into them.
-/
import Derived.Test.YtajkofndbeohpaaVgE
import Derived.Laws.World
namespace Go.Proofs.Ytajkofndbeohpaa.VG
open Go
set_option linter.unusedSimpArgs false
set_option linter.unusedVariables false

/-- A read that an effect must leave as it is: its address, how many cells, under which guard it is done at all. -/
structure PrE where
  i : Nat
  a : E
  n : Nat
  g : Option (E × Bool)

inductive S where
  | nil
  | chk (e : E) (k : S)
  | set (x : Nat) (e : E) (k : S)
  | draw (k : S)
  | call (dst : Option Nat) (f : FuncId) (args : List E) (pr : List PrE) (k : S)
  | st (n : Nat) (a e : E) (pr : List PrE) (k : S)
  | op (dst : Option Nat) (o : Op) (ty : TypeId) (m : List (Nat × E)) (pr : List PrE) (k : S)
  | ifg (g : E) (want : Bool) (a b k : S)
  | alt (a b : S)
  | sq (a k : S)
  | ite (c : E) (a b k : S)
  | blk (id : Nat) (a k : S)
  | loop (a : S)
  | exit (id : Nat)
  | ret

def updo (env : Env) (x : Option Nat) (v : Value) : Env := match x with | some x => upd env x v | none => env

def promOk (p : PrE) (env : Env) (w w' : World) : Prop :=
  (match p.g with | none => True | some (ge, want) => isBool (ge.ev env w) want = true) → SameCells (asA (p.a.ev env w)) p.n w w'

def promsOk : List PrE → Env → World → World → Prop
  | [], _, _, _ => True
  | p :: r, env, w, w' => promOk p env w w' ∧ promsOk r env w w'

/-- What the operands of a general operation hold. -/
def rhoOf (m : List (Nat × E)) (env : Env) (w : World) : Operand → Value
  | .const v => v
  | .global g => .pointer (some ⟨g, 0, none⟩)
  | .func f => .func (.func f) #[] #[]
  | .tmp t => match m.find? (fun p => p.1 == t) with | some p => p.2.ev env w | none => undef

def opOf (o : Op) (ty : TypeId) : Oper := { dst := none, op := o, type := ty, pos := "", after := #[], guard := none }

def uponK (P : Program) (K : Value → World → Prop) : Result Next → Prop
  | .ok (.value v) w => K v w
  | .ok .skip w => K undef w
  | .ok (.enter f args) w => Calls P f args w fun e w' => ∃ v, e = .returned v ∧ K v w'
  | _ => False

def thn (K : Env → World → Prop) (Q : Exit → Env → World → Prop) : Exit → Env → World → Prop
  | .normal, env, w => K env w
  | x, env, w => Q x env w

def inBlk (id : Nat) (K : Env → World → Prop) (Q : Exit → Env → World → Prop) : Exit → Env → World → Prop
  | .normal, env, w => K env w
  | .exit i, env, w => if i = id then K env w else Q (.exit i) env w
  | x, env, w => Q x env w

def evs (l : List E) (env : Env) (w : World) : List Value := l.map fun e => e.ev env w

def one1 : Value → Bool
  | .agg _ | .tuple _ => false
  | _ => true

def putCells (w : World) (a : Addr) (i : Nat) : List Value → World
  | [] => w
  | v :: r => putCells (w.setCell (a.add i) v) a (i + 1) r

/-- The store of n cells. -/
def storeWp (n : Nat) (a v : Value) (w : World) (K : World → Prop) : Prop :=
  isP a ∧ v.cells.size = n ∧ (∀ j, j < n → (w.cell? ((asA a).add j)).isSome = true ∧ w.frozen? ((asA a).add j) = false) ∧ (∀ x ∈ v.cells.toList, one1 x = true) ∧
  K (putCells w (asA a) 0 v.cells.toList)

def S.wp (P : Program) : S → (Exit → Env → World → Prop) → Env → World → Prop
  | .nil, Q, env, w => Q .normal env w
  | .chk e k, Q, env, w => e.ok env w ∧ k.wp P Q env w
  | .set x e k, Q, env, w => k.wp P Q (upd env x (e.ev env w)) w
  | .draw k, Q, env, w => k.wp P Q env w.drew
  | .call dst f args pr k, Q, env, w => Calls P f (evs args env w).toArray w fun e w' => ∃ v, e = .returned v ∧ promsOk pr env w w' ∧ k.wp P Q (updo env dst v) w'
  | .st n a e pr k, Q, env, w => storeWp n (a.ev env w) (e.ev env w) w fun w' => promsOk pr env w w' ∧ k.wp P Q env w'
  | .op dst o ty m pr k, Q, env, w => uponK P (fun v w' => promsOk pr env w w' ∧ k.wp P Q (updo env dst v) w') ((execOp (rhoOf m env w) (opOf o ty)).run P w)
  | .ifg g want a b k, Q, env, w => (isBool (g.ev env w) want = true → a.wp P (thn (k.wp P Q) Q) env w) ∧ (isBool (g.ev env w) want = false → b.wp P (thn (k.wp P Q) Q) env w)
  | .alt a b, Q, env, w => a.wp P Q env w ∧ b.wp P Q env w
  | .sq a k, Q, env, w => a.wp P (thn (k.wp P Q) Q) env w
  | .ite c a b k, Q, env, w => isB (c.ev env w) ∧ (asB (c.ev env w) = true → a.wp P (thn (k.wp P Q) Q) env w) ∧ (asB (c.ev env w) = false → b.wp P (thn (k.wp P Q) Q) env w)
  | .blk id a k, Q, env, w => a.wp P (inBlk id (k.wp P Q) Q) env w
  | .loop a, Q, env, w => ∃ (I : Nat → Env → World → Prop) (n : Nat), I n env w ∧ ∀ n env w, I n env w → a.wp P (thn (fun env' w' => ∃ m, m < n ∧ I m env' w') Q) env w
  | .exit id, Q, env, w => Q (.exit id) env w
  | .ret, Q, env, w => Q .ret env w


/-! ### A region's translation -/
structure St where
  lv : List Nat
  m : List Ent
  pr : Option (List PrE)

def guardT (ops : Array Oper) (o : Oper) : Option (Option (Nat × Bool)) :=
  match o.guard with
  | none => some none
  | some (j, want) => match (ops[j]?).bind (·.dst) with
    | some tg => some (some (tg, want))
    | none => none

def guardE (st : St) : Option (Nat × Bool) → Option (Option (E × Bool))
  | none => some none
  | some (tg, want) => match rd st.lv st.m none none (.tmp tg) with
    | some e => some (some (e, want))
    | none => none

def wrapG : Option (E × Bool) → E → E
  | none, e => e
  | some (g, want), e => .gd g want e

def extOf (want : Bool) : Operand → Option (Nat × Bool)
  | .tmp t => some (t, want)
  | _ => none

def opE (P : Program) (st : St) (cur : Option (Nat × Bool)) (o : Op) : Option E :=
  match o with
  | .pick c a b => match rd st.lv st.m cur none c, rd st.lv st.m cur (extOf true c) a, rd st.lv st.m cur (extOf false c) b with
    | some ec, some ea, some eb => some (mkPk ec ea eb)
    | _, _, _ => none
  | o => cE P (rd st.lv st.m cur none) o

def cut (t : Nat) (m : List Ent) : List Ent :=
  m.filter fun en => en.t != t && (match en.g with | some (tg, _) => tg != t | none => true) && !en.e.ment t && !en.ge.ment t

def cuto : Option Nat → List Ent → List Ent
  | none, m => m
  | some t, m => cut t m

def PrE.ment (t : Nat) (p : PrE) : Bool := p.a.ment t || (match p.g with | some (g, _) => g.ment t | none => false)
def PrE.pure (p : PrE) : Bool := p.a.pure && (match p.g with | some (g, _) => g.pure | none => true)

def prCut (t : Nat) : Option (List PrE) → Option (List PrE)
  | none => none
  | some l => if l.any (PrE.ment t) then none else some l

def prCuto : Option Nat → Option (List PrE) → Option (List PrE)
  | none, l => l
  | some t, l => prCut t l

def prAdd (draw : Bool) (i : Nat) (e : E) (g : Option (E × Bool)) (pr : Option (List PrE)) : Option (List PrE) :=
  if draw then match pr with
    | none => none
    | some l => match e with
      | .ld a => if (PrE.mk i a 1 g).pure then some (⟨i, a, 1, g⟩ :: l) else none
      | .ldn n a => if (PrE.mk i a n g).pure then some (⟨i, a, n, g⟩ :: l) else none
      | _ => some l
  else pr

def mkChk (e : E) (s : S) : S := if triv e then s else .chk e s

def mkChkO (o : Op) (e : E) (s : S) : S := if isMv o then s else mkChk e s

def callable (P : Program) (f : FuncId) : Bool :=
  match P.funcs[f]? with
  | some fn => !(fn.name == "runtime.NumGoroutine") && fn.body.isSome
  | none => false

def rds (R : Operand → Option E) : List Operand → Option (List E)
  | [] => some []
  | x :: r => match R x, rds R r with
    | some e, some l => some (e :: l)
    | _, _ => none

/-- The temporaries among a general operation's operands, with their expressions. -/
def rdm (R : Operand → Option E) : List Operand → Option (List (Nat × E))
  | [] => some []
  | x :: r => match rdm R r with
    | none => none
    | some l => match x with
      | .tmp t => match R x with
        | some e => some ((t, e) :: l)
        | none => none
      | _ => some l

def plainOp : Op → Bool
  | .select _ _ | .go _ | .defer _ | .panic _ | .send _ _ | .recv _ _ _ => false
  | _ => true

def effS (P : Program) (R : Operand → Option E) (o : Oper) (pr : List PrE) (s : S) : Option S :=
  match o.op with
  | .store t x y => match P.info? t, R x, R y, o.dst with
    | some i, some a, some e, none => some (.st i.size a e pr s)
    | _, _, _, _ => none
  | .call { callee := .value (.func f), args, .. } => if callable P f then match rds R args.toList with
      | some es => some (.call o.dst f es pr s)
      | none => none
    else none
  | op => if plainOp op then match rdm R op.operands.toList with
      | some m => some (.op o.dst op o.type m pr s)
      | none => none
    else none

def consO (d : Option Nat) (lv : List Nat) : List Nat :=
  match d with
  | some t => if lv.contains t then lv else t :: lv
  | none => lv

def setO (d : Option Nat) (s : S) : S :=
  match d with
  | some t => .set t (.cn undef) s
  | none => s

def gIs : Option (Nat × Bool) → Nat → Bool
  | some (tg, _), t => tg == t
  | none, _ => false
def dOk : Option Nat → Nat → Bool
  | some t, n => decide (t < n)
  | none, _ => true

def _root_.Go.Proofs.Ytajkofndbeohpaa.VG.Sched.all : Sched → List Nat
  | .nil => []
  | .op i r => i :: r.all
  | .alt a b => a.all ++ b.all

def opTmps (l : List Operand) : List Nat := l.filterMap fun | .tmp t => some t | _ => none

/-- Is a temporary looked at by one of these operations? -/
def needs (ops : Array Oper) (rest : List Nat) (t : Nat) : Bool :=
  rest.any fun j => match ops[j]? with
    | some o => (opTmps o.op.operands.toList).contains t || (match guardT ops o with | some (some (tg, _)) => tg == t | _ => false)
    | none => false

/-- Temporaries written out before a variable that their expressions mention changes. -/
def matS : List Nat → St → Option (List (Nat × E) × St)
  | [], st => some ([], st)
  | t :: r, st => if st.lv.contains t then matS r st else match rd st.lv st.m none none (.tmp t) with
    | none => none
    | some e => match matS r ⟨t :: st.lv, st.m.filter (fun en => !en.e.ment t && !en.ge.ment t), prCut t st.pr⟩ with
      | none => none
      | some (l, st') => some ((t, e) :: l, st')

def setsS : List (Nat × E) → S → S
  | [], s => s
  | (t, e) :: r, s => .set t e (setsS r s)

def matOfSet (ops : Array Oper) (rest : List Nat) (t : Nat) (m : List Ent) : List Nat :=
  (m.filter fun en => (en.e.ment t || en.ge.ment t) && needs ops rest en.t).map (·.t)

/-- Is a temporary some later operation's guard? -/
def gUsed (ops : Array Oper) (rest : List Nat) (t : Nat) : Bool :=
  rest.any fun j => match ops[j]? with
    | some o => (match guardT ops o with | some (some (tg, _)) => tg == t | _ => false)
    | none => false

def go (P : Program) (ops : Array Oper) (q : Nat → Bool) (bf : Nat → Nat → Bool) (draw mat : Bool) (n : Nat) (k : S) : Sched → St → Option S
  | .nil, _ => some k
  | .alt x y, st => match go P ops q bf draw mat n k x st, go P ops q bf draw mat n k y st with
    | some a, some b => some (.alt a b)
    | _, _ => none
  | .op i rest, st =>
    match ops[i]? with
    | none => none
    | some o =>
      match guardT ops o with
      | none => none
      | some cur =>
        match guardE st cur with
        | none => none
        | some ge =>
          if q i then
            match opE P st cur o.op with
            | none => none
            | some e =>
              match o.dst with
              | none => match go P ops q bf draw mat n k rest ⟨st.lv, st.m, prAdd draw i e ge st.pr⟩ with
                | some s => some (mkChkO o.op (wrapG ge e) s)
                | none => none
              | some t => if t < n then
                  if st.lv.contains t || (mat && (isLoadOp o.op || gUsed ops rest.all t)) then
                    match matS (matOfSet ops rest.all t st.m) ⟨st.lv, st.m, prAdd draw i e ge st.pr⟩ with
                    | none => none
                    | some (l, st1) =>
                      if l.any (fun p => (wrapG ge e).ment p.1) then none else
                      match go P ops q bf draw mat n k rest ⟨consO (some t) st1.lv, cut t st1.m, prCut t st1.pr⟩ with
                      | some s => some (mkChkO o.op (wrapG ge e) (setsS l (.set t (wrapG ge e) s)))
                      | none => none
                  else if gIs cur t then none
                  else
                    match go P ops q bf draw mat n k rest ⟨st.lv, ⟨t, e, cur, (ge.map (·.1)).getD (.cn undef)⟩ :: cut t st.m, prAdd draw i e ge st.pr⟩ with
                    | some s => some (mkChkO o.op (wrapG ge e) s)
                    | none => none
                else none
          else
            match st.pr with
            | none => none
            | some l =>
              if dOk o.dst n then
                match go P ops q bf draw mat n k rest ⟨consO o.dst st.lv, (cuto o.dst st.m).filter (fun en => en.e.pure && en.ge.pure), prCuto o.dst (some (l.filter fun p => !bf p.i i))⟩ with
                | none => none
                | some s => match ge with
                  | none => effS P (rd st.lv st.m cur none) o (l.filter fun p => !bf p.i i) s
                  | some (g, want) => match effS P (rd st.lv st.m cur none) o (l.filter fun p => !bf p.i i) .nil with
                    | none => none
                    | some s' => some (.ifg g want s' (setO o.dst .nil) s)
              else none

end Go.Proofs.Ytajkofndbeohpaa.VG
