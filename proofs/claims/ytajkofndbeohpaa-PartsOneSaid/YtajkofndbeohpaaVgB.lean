/-
  VG, part B: nodes of two operands.
-/
import Derived.Test.YtajkofndbeohpaaVgA
namespace Go.Proofs.Ytajkofndbeohpaa.VG
open Go
set_option linter.unusedSimpArgs false
set_option linter.unusedVariables false

def slB (v : Value) : Addr := (slA v).getD default

inductive B where
  | ar (op : BinOp) (k : IntKind) | dv (rem : Bool) (k : IntKind) | bt (op : BinOp) (k : IntKind) | sh (left : Bool) (k : IntKind)
  | cm (op : BinOp) (k : IntKind) | eqb (ng : Bool) | eqs (ng : Bool)
  | ia (size : Nat) | aa (len size : Nat) | ix1 (len size : Nat) | ixN (len size : Nat) | ixs
  | mx (k : IntKind) | mn (k : IntKind)

def B.val : B → Value → Value → Value
  | .ar op k, x, y => .int k (k.wrap (arith op (asI x) (asI y)))
  | .dv false k, x, y => .int k (k.wrap ((asI x).tdiv (asI y)))
  | .dv true k, x, y => .int k ((asI x).tmod (asI y))
  | .bt op k, x, y => .int k (bitw op k (asI x) (asI y))
  | .sh true k, x, y => .int k (shl k (asI x) (asI y))
  | .sh false k, x, y => .int k (shr k (asI x) (asI y))
  | .cm op _, x, y => .bool (cmpi op (asI x) (asI y))
  | .eqb ng, x, y => .bool ((asB x == asB y) != ng)
  | .eqs ng, x, y => .bool (((asS x).toList == (asS y).toList) != ng)
  | .ia size, x, y => .pointer (some ((slB x).add ((asI y).toNat * size)))
  | .aa _ size, x, y => .pointer (some ((asA x).add ((asI y).toNat * size)))
  | .ix1 _ size, x, y => (agC x).getD ((asI y).toNat * size) undef
  | .ixN _ size, x, y => .agg ((agC x).extract ((asI y).toNat * size) ((asI y).toNat * size + size))
  | .ixs, x, y => .int .u8 ((asS x)[(asI y).toNat]?.getD 0).toNat
  | .mx k, x, y => .int k (if asI y > asI x then asI y else asI x)
  | .mn k, x, y => .int k (if asI y < asI x then asI y else asI x)

def B.ok : B → Value → Value → Prop
  | .ar _ k, x, y => isI k x ∧ isI k y
  | .dv _ k, x, y => (isI k x ∧ isI k y) ∧ asI y ≠ 0
  | .bt _ k, x, y => isI k x ∧ isI k y
  | .sh _ k, x, y => (isI k x ∧ isInt y) ∧ 0 ≤ asI y
  | .cm _ k, x, y => isI k x ∧ isI k y
  | .eqb _, x, y => isB x ∧ isB y
  | .eqs _, x, y => isStr x ∧ isStr y
  | .ia _, x, y => (isS x ∧ isInt y) ∧ (slA x).isSome ∧ 0 ≤ asI y ∧ asI y < slL x
  | .aa n _, x, y => (isP x ∧ isInt y) ∧ 0 ≤ asI y ∧ asI y < n
  | .ix1 n size, x, y => (isAg x ∧ isInt y) ∧ 0 ≤ asI y ∧ asI y < n ∧ (asI y).toNat * size < (agC x).size
  | .ixN n _, x, y => (isAg x ∧ isInt y) ∧ 0 ≤ asI y ∧ asI y < n
  | .ixs, x, y => (isStr x ∧ isInt y) ∧ 0 ≤ asI y ∧ asI y < (asS x).size
  | .mx k, x, y => isI k x ∧ isI k y
  | .mn k, x, y => isI k x ∧ isI k y

def cB (P : Program) (o : Op) : Option (B × Operand × Operand) :=
  match o with
  | .binOp op t x y _ => match P.underlying t with
    | some (.int k) => match op with
      | .add => some (.ar .add k, x, y)
      | .sub => some (.ar .sub k, x, y)
      | .mul => some (.ar .mul k, x, y)
      | .quo => some (.dv false k, x, y)
      | .rem => some (.dv true k, x, y)
      | .and => some (.bt .and k, x, y)
      | .or => some (.bt .or k, x, y)
      | .xor => some (.bt .xor k, x, y)
      | .andNot => some (.bt .andNot k, x, y)
      | .shl => some (.sh true k, x, y)
      | .shr => some (.sh false k, x, y)
      | .eql => some (.cm .eql k, x, y)
      | .neq => some (.cm .neq k, x, y)
      | .lss => some (.cm .lss k, x, y)
      | .leq => some (.cm .leq k, x, y)
      | .gtr => some (.cm .gtr k, x, y)
      | .geq => some (.cm .geq k, x, y)
    | some .bool => match op with
      | .eql => some (.eqb false, x, y)
      | .neq => some (.eqb true, x, y)
      | _ => none
    | some .string => match op with
      | .eql => some (.eqs false, x, y)
      | .neq => some (.eqs true, x, y)
      | _ => none
    | _ => none
  | .indexAddr t x y => match P.underlying t with
    | some (.slice e) => match P.info? e with
      | some i => some (.ia i.size, x, y)
      | none => none
    | some (.array n e) => match P.info? e with
      | some i => some (.aa n i.size, x, y)
      | none => none
    | _ => none
  | .index t x y => match P.underlying t with
    | some (.array n e) => match P.info? e, P.underlying e with
      | some i, some d => if isAggD d then some (.ixN n i.size, x, y) else some (.ix1 n i.size, x, y)
      | _, _ => none
    | some .string => some (.ixs, x, y)
    | _ => none
  | .call { callee := .builtin .max, args, argTypes } =>
    match args.toList, argTypes[0]? with
    | [x, y], some t => match P.underlying t with
      | some (.int k) => some (.mx k, x, y)
      | _ => none
    | _, _ => none
  | .call { callee := .builtin .min, args, argTypes } =>
    match args.toList, argTypes[0]? with
    | [x, y], some t => match P.underlying t with
      | some (.int k) => some (.mn k, x, y)
      | _ => none
    | _, _ => none
  | _ => none

section
variable {P : Program}

theorem isI_cases {k : IntKind} {v : Value} (h : isI k v) : ∃ n, v = .int k n := by
  cases v with
  | int k' n => exact ⟨n, by simp only [isI] at h; rw [h]⟩
  | _ => exact h.elim
theorem isInt_cases {v : Value} (h : isInt v) : ∃ k n, v = .int k n := by
  cases v with
  | int k' n => exact ⟨k', n, rfl⟩
  | _ => exact h.elim
theorem isB_cases {v : Value} (h : isB v) : ∃ n, v = .bool n := by
  cases v with
  | bool n => exact ⟨n, rfl⟩
  | _ => exact h.elim
theorem isStr_cases {v : Value} (h : isStr v) : ∃ n, v = .string n := by
  cases v with
  | string n => exact ⟨n, rfl⟩
  | _ => exact h.elim
theorem isP_cases {v : Value} (h : isP v) : ∃ n, v = .pointer (some n) := by
  cases v with
  | pointer n => cases n with
    | none => exact h.elim
    | some a => exact ⟨a, rfl⟩
  | _ => exact h.elim
theorem isS_cases {v : Value} (h : isS v) : ∃ a n c, v = .slice a n c := by
  cases v with
  | slice a n c => exact ⟨a, n, c, rfl⟩
  | _ => exact h.elim
theorem isAg_cases {v : Value} (h : isAg v) : ∃ n, v = .agg n := by
  cases v with
  | agg n => exact ⟨n, rfl⟩
  | _ => exact h.elim

theorem eqGuard_int (op : BinOp) (t : TypeId) (x y : Operand) (k k' : IntKind) (a b : Int) (w : World) : (eqGuard op t x y (.int k a) (.int k' b)).run P w = .ok () w := by
  unfold eqGuard; cases op <;> rfl

theorem binOp_int (op : BinOp) (t : TypeId) (k : IntKind) (a b : Int) (w : World) (h : op ≠ .shl ∧ op ≠ .shr) :
    (binOp op t (.int k a) (.int k b)).run P w = (match op with
      | .add | .sub | .mul => Op.intArith op k a b
      | .quo | .rem => Op.intDiv op k a b
      | .and | .or | .xor | .andNot => Op.intBits op k a b
      | _ => Op.intCmp op a b).run P w := by
  cases op <;> simp_all [binOp]

theorem run_bin_int (op : BinOp) (t : TypeId) (x y : Operand) (k : IntKind) (a b : Int) (w : World) (s : Sem Value) (v : Value)
    (hs : (binOp op t (.int k a) (.int k b)).run P w = .ok v w) :
    (do let r ← (do eqGuard op t x y (.int k a) (.int k b); binOp op t (.int k a) (.int k b)); pure (Next.value r) : Sem Next).run P w = .ok (.value v) w := by
  rw [run_bind, run_bind, eqGuard_int]
  simp only [hs, run_pure]

theorem cB_int {op : BinOp} {t : TypeId} {x y : Operand} {k : IntKind} {n : B} {a b : Int} (w : World)
    (hn : (match op with
      | .add => some (B.ar .add k, x, y)
      | .sub => some (.ar .sub k, x, y)
      | .mul => some (.ar .mul k, x, y)
      | .quo => some (.dv false k, x, y)
      | .rem => some (.dv true k, x, y)
      | .and => some (.bt .and k, x, y)
      | .or => some (.bt .or k, x, y)
      | .xor => some (.bt .xor k, x, y)
      | .andNot => some (.bt .andNot k, x, y)
      | .shl => some (.sh true k, x, y)
      | .shr => some (.sh false k, x, y)
      | .eql => some (.cm .eql k, x, y)
      | .neq => some (.cm .neq k, x, y)
      | .lss => some (.cm .lss k, x, y)
      | .leq => some (.cm .leq k, x, y)
      | .gtr => some (.cm .gtr k, x, y)
      | .geq => some (.cm .geq k, x, y)) = some (n, x, y)) (h : op ≠ .shl ∧ op ≠ .shr) (hok : n.ok (.int k a) (.int k b)) :
    (binOp op t (.int k a) (.int k b)).run P w = .ok (n.val (.int k a) (.int k b)) w := by
  rw [binOp_int op t k a b w h]
  cases op <;> simp only [Option.some.injEq, Prod.mk.injEq, and_true] at hn <;> subst hn <;>
    first
    | (exact absurd rfl h.1)
    | (exact absurd rfl h.2)
    | rfl
    | (simp only [B.ok, asI, isI] at hok; simp [Op.intDiv, hok.2, run_pure, B.val, asI])
    | (simp [Op.intCmp, run_pure, B.val, asI, cmpi])


theorem equal_bool {t : TypeId} (hu : P.underlying t = some .bool) (a b : Bool) (w : World) : (Op.equal t (.bool a) (.bool b)).run P w = .ok (a == b) w := by
  unfold Op.equal Op.maxDepth
  rw [Op.equalIn, run_bind, run_underlying hu]
  rfl

theorem run_eqb {t : TypeId} (hu : P.underlying t = some .bool) (x y : Operand) (a b : Bool) (w : World) :
    (do let r ← (do eqGuard .eql t x y (.bool a) (.bool b); binOp .eql t (.bool a) (.bool b)); pure (Next.value r) : Sem Next).run P w = .ok (.value (.bool ((a == b) != false))) w := by
  have e : (eqGuard .eql t x y (.bool a) (.bool b)).run P w = .ok () w := rfl
  rw [run_bind, run_bind, e]
  simp only [binOp, run_bind, equal_bool hu, run_pure]
  cases a <;> cases b <;> rfl
theorem run_neb {t : TypeId} (hu : P.underlying t = some .bool) (x y : Operand) (a b : Bool) (w : World) :
    (do let r ← (do eqGuard .neq t x y (.bool a) (.bool b); binOp .neq t (.bool a) (.bool b)); pure (Next.value r) : Sem Next).run P w = .ok (.value (.bool ((a == b) != true))) w := by
  have e : (eqGuard .neq t x y (.bool a) (.bool b)).run P w = .ok () w := rfl
  rw [run_bind, run_bind, e]
  simp only [binOp, run_bind, equal_bool hu, run_pure]
  cases a <;> cases b <;> rfl
theorem run_eqs (t : TypeId) (x y : Operand) (a b : ByteArray) (w : World) :
    (do let r ← (do eqGuard .eql t x y (.string a) (.string b); binOp .eql t (.string a) (.string b)); pure (Next.value r) : Sem Next).run P w = .ok (.value (.bool ((a.toList == b.toList) != false))) w := by
  have e : (eqGuard .eql t x y (.string a) (.string b)).run P w = .ok () w := rfl
  rw [run_bind, run_bind, e]
  simp only [binOp, Op.stringOp, run_pure, Bool.bne_false]
theorem run_nes (t : TypeId) (x y : Operand) (a b : ByteArray) (w : World) :
    (do let r ← (do eqGuard .neq t x y (.string a) (.string b); binOp .neq t (.string a) (.string b)); pure (Next.value r) : Sem Next).run P w = .ok (.value (.bool ((a.toList == b.toList) != true))) w := by
  have e : (eqGuard .neq t x y (.string a) (.string b)).run P w = .ok () w := rfl
  rw [run_bind, run_bind, e]
  simp only [binOp, Op.stringOp, run_pure, Bool.bne_true]

theorem run_indexAt_slice {t e : TypeId} {i : TypeInfo} (hu : P.underlying t = some (.slice e)) (hi : P.info? e = some i) (x y : Value) (h : (B.ia i.size).ok x y) (w : World) :
    (Instr.indexAt t x y).run P w = .ok ((B.ia i.size).val x y) w := by
  obtain ⟨⟨hx, hy⟩, hs, h0, h1⟩ := h
  obtain ⟨a, n, c, rfl⟩ := isS_cases hx
  obtain ⟨k, j, rfl⟩ := isInt_cases hy
  cases a with
  | none => cases hs
  | some a =>
    simp only [asI, slL] at h0 h1
    simp [Instr.indexAt, run_bind, asIntOf, run_pure, run_underlying hu, h0, h1, run_sizeOf hi, B.val, slB, slA, asI]

theorem run_indexAt_array {t e : TypeId} {n : Nat} {i : TypeInfo} (hu : P.underlying t = some (.array n e)) (hi : P.info? e = some i) (x y : Value) (h : (B.aa n i.size).ok x y) (w : World) :
    (Instr.indexAt t x y).run P w = .ok ((B.aa n i.size).val x y) w := by
  obtain ⟨⟨hx, hy⟩, h0, h1⟩ := h
  obtain ⟨a, rfl⟩ := isP_cases hx
  obtain ⟨k, j, rfl⟩ := isInt_cases hy
  simp only [asI] at h0 h1
  simp [Instr.indexAt, run_bind, asIntOf, run_pure, run_underlying hu, h0, h1, run_sizeOf hi, B.val, asA, asI, Instr.sureAddr]

theorem run_index_arr1 {t e : TypeId} {n : Nat} {i : TypeInfo} {d : TypeDesc} (hu : P.underlying t = some (.array n e)) (hi : P.info? e = some i) (hd : P.underlying e = some d) (hag : isAggD d = false) (x y : Value) (h : (B.ix1 n i.size).ok x y) (w : World) :
    (Instr.index t x y).run P w = .ok ((B.ix1 n i.size).val x y) w := by
  obtain ⟨⟨hx, hy⟩, h0, h1, h2⟩ := h
  obtain ⟨cs, rfl⟩ := isAg_cases hx
  obtain ⟨k, j, rfl⟩ := isInt_cases hy
  simp only [asI, agC] at h0 h1 h2
  simp [Instr.index, run_bind, asIntOf, run_pure, run_underlying hu, h0, h1, run_sizeOf hi, B.val, agC, asI, part, run_isAgg hd, hag, h2]

theorem run_index_arrN {t e : TypeId} {n : Nat} {i : TypeInfo} {d : TypeDesc} (hu : P.underlying t = some (.array n e)) (hi : P.info? e = some i) (hd : P.underlying e = some d) (hag : isAggD d = true) (x y : Value) (h : (B.ixN n i.size).ok x y) (w : World) :
    (Instr.index t x y).run P w = .ok ((B.ixN n i.size).val x y) w := by
  obtain ⟨⟨hx, hy⟩, h0, h1⟩ := h
  obtain ⟨cs, rfl⟩ := isAg_cases hx
  obtain ⟨k, j, rfl⟩ := isInt_cases hy
  simp only [asI] at h0 h1
  simp [Instr.index, run_bind, asIntOf, run_pure, run_underlying hu, h0, h1, run_sizeOf hi, B.val, agC, asI, part, run_isAgg hd, hag]

theorem run_index_str {t : TypeId} (hu : P.underlying t = some .string) (x y : Value) (h : B.ixs.ok x y) (w : World) :
    (Instr.index t x y).run P w = .ok (B.ixs.val x y) w := by
  obtain ⟨⟨hx, hy⟩, h0, h1⟩ := h
  obtain ⟨s, rfl⟩ := isStr_cases hx
  obtain ⟨k, j, rfl⟩ := isInt_cases hy
  simp only [asI, asS] at h0 h1
  have hlt : j.toNat < s.size := by omega
  simp [Instr.index, run_bind, asIntOf, run_pure, run_underlying hu, h0, B.val, asS, asI, hlt]

/-- The operation of a node of two operands yields what the node says, wherever it is carried out. -/
theorem cB_run {o : Oper} {n : B} {x y : Operand} (h : cB P o.op = some (n, x, y)) (ρ : Operand → Value) (hok : n.ok (ρ x) (ρ y)) (w : World) :
    (execOp ρ o).run P w = .ok (.value (n.val (ρ x) (ρ y))) w := by
  obtain ⟨dst, op, ty, pos, af, gd⟩ := o
  simp only [cB] at h
  split at h
  case h_1 op t x' y' ty' =>
    simp only [execOp]
    split at h
    case h_1 k hu =>
      have hxy : x' = x ∧ y' = y := by cases op <;> simp_all
      obtain ⟨rfl, rfl⟩ := hxy
      by_cases hsh : op = .shl ∨ op = .shr
      · rcases hsh with rfl | rfl
        all_goals
          simp only [Option.some.injEq, Prod.mk.injEq, and_true] at h
          subst h
          obtain ⟨⟨h1, h2⟩, h3⟩ := hok
          obtain ⟨a, ha⟩ := isI_cases h1
          obtain ⟨k', b, hb⟩ := isInt_cases h2
          rw [hb] at h3
          simp only [asI] at h3
          rw [ha, hb]
          rw [run_bind, run_bind, eqGuard_int]
          simp [binOp, Op.shift, show ¬ b < 0 by omega, run_pure, B.val, shl, shr, asI]
      · have hk : isI k (ρ x') ∧ isI k (ρ y') := by
          cases op <;> simp_all <;> subst h <;> simp_all [B.ok]
        obtain ⟨a, ha⟩ := isI_cases hk.1
        obtain ⟨b, hb⟩ := isI_cases hk.2
        rw [ha, hb] at hok ⊢
        have hne : op ≠ .shl ∧ op ≠ .shr := ⟨fun e => hsh (.inl e), fun e => hsh (.inr e)⟩
        exact run_bin_int op t x' y' k a b w (binOp op t (.int k a) (.int k b)) _ (cB_int w h hne hok)
    case h_2 hu =>
      split at h
      all_goals first | (cases h; done) | skip
      all_goals
        simp only [Option.some.injEq, Prod.mk.injEq] at h
        obtain ⟨rfl, rfl, rfl⟩ := h
        obtain ⟨h1, h2⟩ := hok
        obtain ⟨a, ha⟩ := isB_cases h1
        obtain ⟨b, hb⟩ := isB_cases h2
        rw [ha, hb]
      · exact run_eqb hu _ _ a b w
      · exact run_neb hu _ _ a b w
    case h_3 hu =>
      split at h
      all_goals first | (cases h; done) | skip
      all_goals
        simp only [Option.some.injEq, Prod.mk.injEq] at h
        obtain ⟨rfl, rfl, rfl⟩ := h
        obtain ⟨h1, h2⟩ := hok
        obtain ⟨a, ha⟩ := isStr_cases h1
        obtain ⟨b, hb⟩ := isStr_cases h2
        rw [ha, hb]
      · exact run_eqs t _ _ a b w
      · exact run_nes t _ _ a b w
    case h_4 => cases h
  case h_2 t x' y' =>
    simp only [execOp]
    split at h
    case h_1 e hu =>
      split at h
      case h_1 i hi =>
        cases h
        rw [run_bind, run_indexAt_slice hu hi _ _ hok]
        rfl
      case h_2 => cases h
    case h_2 nn e hu =>
      split at h
      case h_1 i hi =>
        cases h
        rw [run_bind, run_indexAt_array hu hi _ _ hok]
        rfl
      case h_2 => cases h
    case h_3 => cases h
  case h_3 t x' y' =>
    simp only [execOp]
    split at h
    case h_1 nn e hu =>
      split at h
      case h_1 i d hi hd =>
        split at h
        case isTrue hag =>
          cases h
          rw [run_bind, run_index_arrN hu hi hd hag _ _ hok]
          rfl
        case isFalse hag =>
          cases h
          rw [run_bind, run_index_arr1 hu hi hd (by simpa using hag) _ _ hok]
          rfl
      case h_2 => cases h
    case h_2 hu =>
      cases h
      rw [run_bind, run_index_str hu _ _ hok]
      rfl
    case h_3 => cases h
  case h_4 args argTypes =>
    split at h
    case h_1 x' y' t ha ht =>
      split at h <;> cases h
      have hl : (args.map ρ).toList = [ρ x, ρ y] := by simp [ha]
      obtain ⟨h1, h2⟩ := hok
      obtain ⟨a, ha'⟩ := isI_cases h1
      obtain ⟨b, hb'⟩ := isI_cases h2
      simp only [execOp, resolve, invoke, builtin, run_bind, run_pure, Builtin.max_, hl, List.foldlM, ha', hb', Builtin.max2, B.val, asI]
    case h_2 => cases h
  case h_5 args argTypes =>
    split at h
    case h_1 x' y' t ha ht =>
      split at h <;> cases h
      have hl : (args.map ρ).toList = [ρ x, ρ y] := by simp [ha]
      obtain ⟨h1, h2⟩ := hok
      obtain ⟨a, ha'⟩ := isI_cases h1
      obtain ⟨b, hb'⟩ := isI_cases h2
      simp only [execOp, resolve, invoke, builtin, run_bind, run_pure, Builtin.min_, hl, List.foldlM, ha', hb', Builtin.min2, B.val, asI]
    case h_2 => cases h
  case h_6 => cases h


/-- A node's operands are the operation's. -/
theorem cU_mem {o : Op} {n : U} {x : Operand} (h : cU P o = some (n, x)) : x ∈ o.operands := by
  simp only [cU] at h
  split at h
  all_goals first
    | (cases h; done)
    | (cases h; simp [Op.operands]; done)
    | skip
  all_goals (repeat' (split at h))
  all_goals first
    | (cases h; done)
    | (cases h; simp [Op.operands]; done)
    | (simp only [Option.some.injEq, Prod.mk.injEq] at h
       obtain ⟨_, rfl⟩ := h
       simp only [Op.operands, Call.operands, List.empty_eq, Array.empty_append]
       exact Array.mem_of_getElem? (by assumption))

theorem cB_mem {o : Op} {n : B} {x y : Operand} (h : cB P o = some (n, x, y)) : x ∈ o.operands ∧ y ∈ o.operands := by
  simp only [cB] at h
  split at h
  all_goals first
    | (cases h; done)
    | skip
  all_goals (repeat' (split at h))
  all_goals first
    | (cases h; done)
    | (cases h; simp [Op.operands]; done)
    | (simp only [Option.some.injEq, Prod.mk.injEq] at h
       obtain ⟨_, rfl, rfl⟩ := h
       simp only [Op.operands, Call.operands]
       exact ⟨Array.mem_append.2 (.inr (Array.mem_toList_iff.1 (by simp [*]))), Array.mem_append.2 (.inr (Array.mem_toList_iff.1 (by simp [*])))⟩)

end
end Go.Proofs.Ytajkofndbeohpaa.VG
